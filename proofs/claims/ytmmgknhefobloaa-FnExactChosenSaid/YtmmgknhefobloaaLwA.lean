/- A light walk: the code of a Go function that only reads, and makes none but its own boxes, taken over plain data; what the light walk shows holds of the machine. -/
import Derived.Control
import Derived.Calls
import Derived.Tactics
import Derived.Below
import Derived.Deep.Quiet
import Derived.Laws.StructEq
import Derived.BigCall
import Derived.Laws.Rows
import Derived.Deep.LoopGhost
import Derived.StillTail
import Derived.OrdersHeld
import Derived.MapKept
import Derived.Laws.BytesString
import Derived.Lib.Strings
namespace Go.Proofs.Ytmmgknhefobloaa.Lw
open Go Go.RowKit
set_option linter.unusedVariables false
set_option linter.unusedSimpArgs false

section
open Go.MapKept
/-- A map's entries over plain data. -/
abbrev MapD := List (ByteArray × Value)
def mapU (l : MapD) (k : ByteArray) (v : Value) : MapD :=
  if l.any (fun q => decide (q.1 = k)) = true then l.map (fun q => if q.1 = k then (k, v) else q) else l ++ [(k, v)]
def mapX (l : MapD) (k : ByteArray) : MapD := l.filter (fun q => !decide (q.1 = k))
theorem set_eq_map {k : ByteArray} {v : Value} : ∀ {l : MapD} {j : Nat} {p : ByteArray × Value}, (l.map (·.1)).Nodup → l[j]? = some p → p.1 = k → l.set j (k, v) = l.map (fun q => if q.1 = k then (k, v) else q)
  | [], j, p, _, h, _ => by simp at h
  | q :: l, 0, p, hn, h, hk => by
    simp only [List.getElem?_cons_zero, Option.some.injEq] at h
    subst h
    simp only [List.map_cons, List.nodup_cons, List.set_cons_zero, hk, if_true, List.cons.injEq, true_and] at hn ⊢
    conv => lhs; rw [← List.map_id l]
    apply List.map_congr_left
    intro x hx
    have : x.1 ≠ k := fun he => hn.1 (List.mem_map.mpr ⟨x, hx, he⟩)
    simp [this]
  | q :: l, j + 1, p, hn, h, hk => by
    simp only [List.getElem?_cons_succ] at h
    simp only [List.map_cons, List.nodup_cons, List.set_cons_succ] at hn ⊢
    have : q.1 ≠ k := fun he => hn.1 (List.mem_map.mpr ⟨p, List.mem_of_getElem? h, by rw [hk, he]⟩)
    rw [if_neg this, set_eq_map hn.2 h hk]
theorem erase_eq_filter {k : ByteArray} : ∀ {l : MapD} {j : Nat} {p : ByteArray × Value}, (l.map (·.1)).Nodup → l[j]? = some p → p.1 = k → l.eraseIdx j = mapX l k
  | [], j, p, _, h, _ => by simp at h
  | q :: l, 0, p, hn, h, hk => by
    simp only [List.getElem?_cons_zero, Option.some.injEq] at h
    subst h
    simp only [List.map_cons, List.nodup_cons] at hn
    simp only [List.eraseIdx_cons_zero, mapX, hk, List.filter_cons, decide_true, Bool.not_true, Bool.false_eq_true, if_false]
    symm
    rw [List.filter_eq_self]
    intro x hx
    have : x.1 ≠ k := fun he => hn.1 (List.mem_map.mpr ⟨x, hx, by rw [he, hk]⟩)
    simp [this]
  | q :: l, j + 1, p, hn, h, hk => by
    simp only [List.getElem?_cons_succ] at h
    simp only [List.map_cons, List.nodup_cons] at hn
    have : q.1 ≠ k := fun he => hn.1 (List.mem_map.mpr ⟨p, List.mem_of_getElem? h, by rw [hk, he]⟩)
    simp only [List.eraseIdx_cons_succ, mapX, List.filter_cons, this, decide_false, Bool.not_false, if_true]
    rw [erase_eq_filter hn.2 h hk]
    rfl
theorem any_of {k : ByteArray} {l : MapD} (h : k ∈ l.map (·.1)) : l.any (fun q => decide (q.1 = k)) = true := by
  obtain ⟨p, hp, hk⟩ := List.mem_map.mp h
  exact List.any_eq_true.mpr ⟨p, hp, by simp [hk]⟩
theorem mem_any {k : ByteArray} {l : MapD} (h : l.any (fun q => decide (q.1 = k)) = true) : k ∈ l.map (·.1) := by
  obtain ⟨p, hp, hk⟩ := List.any_eq_true.mp h
  exact List.mem_map.mpr ⟨p, hp, by simpa using hk⟩
theorem erase_map {α β : Type} (f : α → β) : ∀ (l : List α) (j : Nat), (l.eraseIdx j).map f = (l.map f).eraseIdx j
  | [], _ => rfl
  | _ :: _, 0 => rfl
  | x :: l, j + 1 => by simp [erase_map f l j]
/-- The map object at r holds l. -/
structure MapAt (w : World) (r : Nat) (l : MapD) : Prop where
  nd : (l.map (·.1)).Nodup
  at_ : ∃ es clock, w.heap[r]? = some (.map es clock) ∧ es.toList.map (fun x => (x.key, x.val)) = l.map fun p => (Value.string p.1, p.2)
theorem key_back {es : List MapEntry} {l : MapD} (h : es.map (fun x => (x.key, x.val)) = l.map fun p => (Value.string p.1, p.2)) {j : Nat} {e : MapEntry} (he : es[j]? = some e) : ∃ p, l[j]? = some p ∧ e.key = .string p.1 ∧ e.val = p.2 := by
  have := congrArg (·[j]?) h
  simp only [List.getElem?_map, he, Option.map_some] at this
  cases hl : l[j]? with
  | none => rw [hl] at this; simp at this
  | some p =>
    rw [hl] at this
    simp only [Option.map_some, Option.some.injEq, Prod.mk.injEq] at this
    exact ⟨p, rfl, this.1, this.2⟩
theorem keys_are {es : List MapEntry} {l : MapD} (h : es.map (fun x => (x.key, x.val)) = l.map fun p => (Value.string p.1, p.2)) : ∀ x ∈ es, IsKey .string x.key := by
  intro x hx
  obtain ⟨j, hj⟩ := List.getElem?_of_mem hx
  obtain ⟨p, _, hk, _⟩ := key_back h hj
  rw [hk]
  trivial
section
variable {P : Program} {w : World} {mty kt et : TypeId} {r : Nat} {l : MapD}
theorem nodup_mapU (hn : (l.map (·.1)).Nodup) (k : ByteArray) (v : Value) : ((mapU l k v).map (·.1)).Nodup := by
  unfold mapU
  split
  · rename_i hk
    have : (l.map (fun q => if q.1 = k then (k, v) else q)).map (·.1) = l.map (·.1) := by
      rw [List.map_map]
      apply List.map_congr_left
      intro x _
      simp only [Function.comp]
      split
      · rename_i h; exact h.symm
      · rfl
    rw [this]
    exact hn
  · rename_i hk
    have hk : k ∉ l.map (·.1) := fun hin => hk (any_of hin)
    rw [List.map_append, List.nodup_append]
    refine ⟨hn, by simp, fun x hx y hy => ?_⟩
    simp only [List.map_cons, List.map_nil, List.mem_singleton] at hy
    subst hy
    exact fun he => hk (he ▸ hx)
theorem mapUpdate_run (hm : P.underlying mty = some (.map kt et)) (hd : P.underlying kt = some .string) (h : MapAt w r l) (k : ByteArray) (v : Value) :
    ∃ o, (Instr.mapUpdate mty (.map (some r)) (.string k) v).run P w = .ok () { w with heap := w.heap.setIfInBounds r o } ∧ MapAt { w with heap := w.heap.setIfInBounds r o } r (mapU l k v) := by
  obtain ⟨es, clock, hb, hl⟩ := h.at_
  have hk : IsKey .string (.string k) := trivial
  rcases findNow_spec hk es.toList 0 (keys_are hl) with ⟨h1, h2⟩ | ⟨j, e, h1, h2, h3⟩
  · refine ⟨.map (es.push { key := .string k, val := v, born := clock }) (clock + 1), ?_, nodup_mapU h.nd k v, _, _, (heap_set hb).1, ?_⟩
    · simp [Instr.mapUpdate, run_underlying hm, Go.MapKept.run_getObj_map hb, run_checkKey hd hk, run_findKey hd h1, Go.MapKept.run_setObj_map _ hb, Result.andThen]
    · have hno : k ∉ l.map (·.1) := fun hin => by
        obtain ⟨p, hp, hpk⟩ := List.mem_map.mp hin
        have : (Value.string p.1, p.2) ∈ es.toList.map (fun x => (x.key, x.val)) := by rw [hl]; exact List.mem_map.mpr ⟨p, hp, rfl⟩
        obtain ⟨x, hx, hxe⟩ := List.mem_map.mp this
        simp only [Prod.mk.injEq] at hxe
        exact h2 x hx (by rw [hxe.1, hpk])
      simp only [mapU, if_neg (fun h => hno (mem_any h)), Array.toList_push, List.map_append, hl, List.map_cons, List.map_nil]
  · have hj : es[j]? = some e := by simpa using h2
    obtain ⟨p, hp, hpk, hpv⟩ := key_back hl h2
    have hpk' : p.1 = k := by rw [hpk] at h3; exact Value.string.inj h3
    refine ⟨.map (es.modify j fun e => { e with key := .string k, val := v }) clock, ?_, nodup_mapU h.nd k v, _, _, (heap_set hb).1, ?_⟩
    · simp [Instr.mapUpdate, run_underlying hm, Go.MapKept.run_getObj_map hb, run_checkKey hd hk, run_findKey hd h1, hj, h3, run_keyThatStays hk, Go.MapKept.run_setObj_map _ hb, Result.andThen]
    · have hin : k ∈ l.map (·.1) := List.mem_map.mpr ⟨p, List.mem_of_getElem? hp, hpk'⟩
      have hset := set_eq_map (v := v) h.nd hp hpk'
      simp only [mapU, if_pos (any_of hin), ← hset]
      rw [List.map_set, ← hl]
      apply List.ext_getElem?
      intro i
      simp only [Array.toList_modify, List.getElem?_map, List.getElem?_modify, List.getElem?_set, List.length_map]
      by_cases hij : j = i
      · subst hij
        have hlt : j < es.toList.length := (List.getElem?_eq_some_iff.1 h2).1
        have hlt2 : j < es.size := by simpa using hlt
        simp [h2, hlt2, hj]
      · simp [hij]
theorem mapDelete_run {ty : TypeId} (hm : P.underlying mty = some (.map kt et)) (hd : P.underlying kt = some .string) (h : MapAt w r l) (k : ByteArray) :
    ∃ o, (Builtin.delete_ #[mty, kt] ty #[.map (some r), .string k]).run P w = .ok (.tuple #[]) { w with heap := w.heap.setIfInBounds r o } ∧ MapAt { w with heap := w.heap.setIfInBounds r o } r (mapX l k) := by
  obtain ⟨es, clock, hb, hl⟩ := h.at_
  have hk : IsKey .string (.string k) := trivial
  have hnd : ((mapX l k).map (·.1)).Nodup := h.nd.sublist (List.Sublist.map _ List.filter_sublist)
  rcases findNow_spec hk es.toList 0 (keys_are hl) with ⟨h1, h2⟩ | ⟨j, e, h1, h2, h3⟩
  · refine ⟨.map es clock, ?_, hnd, _, _, (heap_set hb).1, ?_⟩
    · simp [Builtin.delete_, run_underlying hm, Go.MapKept.run_getObj_map hb, run_checkKey hd hk, run_findKey hd h1, Go.MapKept.run_setObj_map _ hb, Result.andThen]
    · have : mapX l k = l := by
        unfold mapX
        rw [List.filter_eq_self]
        intro p hp
        have hin : (Value.string p.1, p.2) ∈ es.toList.map (fun x => (x.key, x.val)) := by rw [hl]; exact List.mem_map.mpr ⟨p, hp, rfl⟩
        obtain ⟨x, hx, hxe⟩ := List.mem_map.mp hin
        simp only [Prod.mk.injEq] at hxe
        have : p.1 ≠ k := fun he => h2 x hx (by rw [hxe.1, he])
        simp [this]
      rw [this]
      exact hl
  · obtain ⟨p, hp, hpk, hpv⟩ := key_back hl h2
    have hpk' : p.1 = k := by rw [hpk] at h3; exact Value.string.inj h3
    refine ⟨.map (es.eraseIdxIfInBounds j) clock, ?_, hnd, _, _, (heap_set hb).1, ?_⟩
    · simp [Builtin.delete_, run_underlying hm, Go.MapKept.run_getObj_map hb, run_checkKey hd hk, run_findKey hd h1, Go.MapKept.run_setObj_map _ hb, Result.andThen]
    · have hlt : j < es.toList.length := (List.getElem?_eq_some_iff.1 h2).1
      rw [← erase_eq_filter h.nd hp hpk']
      have he : (es.eraseIdxIfInBounds j).toList = es.toList.eraseIdx j := by
        unfold Array.eraseIdxIfInBounds
        rw [dif_pos (by simpa using hlt), Array.toList_eraseIdx]
      rw [he, erase_map, hl, erase_map]
theorem mapLen_run {ty : TypeId} (hm : P.underlying mty = some (.map kt et)) (h : MapAt w r l) : (Builtin.len_ #[mty] ty #[.map (some r)]).run P w = .ok (goInt l.length) w := by
  obtain ⟨es, clock, hb, hl⟩ := h.at_
  have : es.size = l.length := by
    have := congrArg List.length hl
    simpa using this
  simp [Builtin.len_, run_underlying hm, Go.MapKept.run_getObj_map hb, Result.andThen, this]
end
theorem MapAt.of {w w' : World} {r : Nat} {l : MapD} (h : MapAt w r l) (he : w'.heap[r]? = w.heap[r]?) : MapAt w' r l :=
  ⟨h.nd, let ⟨es, c, h1, h2⟩ := h.at_; ⟨es, c, he.trans h1, h2⟩⟩
theorem MapAt.lt {w : World} {r : Nat} {l : MapD} (h : MapAt w r l) : r < w.heap.size := by
  obtain ⟨es, c, h1, _⟩ := h.at_
  exact (Array.getElem?_eq_some_iff.1 h1).1
theorem MapAt.ne {w : World} {r r' : Nat} {l : MapD} {c : Array Value} {ty : TypeId} {fr : Nat × Nat} (h : MapAt w r l) (hc : w.heap[r']? = some (.cells c ty fr)) : r ≠ r' := by
  obtain ⟨es, k, h1, _⟩ := h.at_
  intro he
  rw [he, hc] at h1
  cases h1
end
/-- A temporary: plain data, or an address in a box of the function's own. -/
inductive PV where
  | v (x : Value)
  | p (b o : Nat)
  | e (ad : Addr) (o : Nat)
  | s (b len cap z : Nat)
  | q (b k : Nat)
  | m (b : Nat) (l : MapD)
abbrev Env := List (Nat × PV)
abbrev Bx := List (Nat × List Value)
def look : Env → Nat → Option PV
  | [], _ => none
  | (k, v) :: r, t => bif Nat.beq k t then some v else look r t
def lookB : Bx → Nat → Option (List Value)
  | [], _ => none
  | (k, v) :: r, t => bif Nat.beq k t then some v else lookB r t
def conc (σ : Nat → Nat) : PV → Value
  | .v x => x
  | .p b o => .pointer (some ⟨σ b, o, none⟩)
  | .e ad o => .pointer (some (ad.add o))
  | .s b len cap _ => .slice (some ⟨σ b, 0, none⟩) len cap
  | .q b k => .pointer (some ⟨σ b, k, none⟩)
  | .m b _ => .map (some (σ b))
def idOf : PV → Option Nat
  | .p b _ | .s b _ _ _ | .q b _ | .m b _ => some b
  | _ => none
def ev (e : Env) : Operand → Option PV
  | .tmp t => look e t
  | .const v => some (.v v)
  | .global _ => none
  | .func f => some (.v (.func (.func f) #[] #[]))
def evV (e : Env) (x : Operand) : Option Value :=
  match ev e x with
  | some (.v u) => some u
  | _ => none
def evL (e : Env) : List Operand → Option (List Value)
  | [] => some []
  | x :: r =>
    match evV e x, evL e r with
    | some u, some l => some (u :: l)
    | _, _ => none
/-- What a step comes to that looks at nothing but the program. -/
def prun {α : Type} (P : Program) : Sem α → Option α
  | .pure a => some a
  | .program k => prun P (k P)
  | _ => none
theorem prun_run {α : Type} {P : Program} : ∀ {s : Sem α} {r : α}, prun P s = some r → ∀ w, s.run P w = .ok r w := by
  intro s
  induction s with
  | pure a => intro r h w; simp only [prun, Option.some.injEq] at h; subst h; rfl
  | program k ih => intro r h w; exact ih P h w
  | _ => intro r h; simp [prun] at h
def aggSize (t : TypeId) : Sem (Option Nat) := do
  if ← isAgg t then pure (some (← sizeOf t)) else pure none
def fieldOff (s : TypeId) (field : Nat) : Sem Nat := do
  let .struct fields ← underlying s | stuck ""
  let some f := fields[field]? | stuck ""
  if (← sizeOf f.type) = 0 then stuck "" else pure f.offset
def elemSize (t : TypeId) : Sem Nat := do
  let .slice elem ← underlying t | stuck ""
  sizeOf elem
def fieldOfT (s : TypeId) (field : Nat) : Sem (Nat × TypeId) := do
  let .struct fields ← underlying s | stuck ""
  let some f := fields[field]? | stuck ""
  pure (f.offset, f.type)
def elemInfo (t : TypeId) : Sem (Nat × Nat × List Value × TypeId) := do
  let .slice elem ← underlying t | stuck ""
  let i ← typeInfo elem
  let zero ← zeroValue elem
  if i.size = 0 then stuck "" else if zero.cells.size = i.size then pure (i.size, i.bytes, zero.cells.toList, elem) else stuck ""
def appOk (t : TypeId) : Sem Unit := do
  let .slice _ ← underlying t | stuck ""
  pure ()
def intTy (t : TypeId) : Sem Unit := do
  let .int _ ← underlying t | stuck ""
  pure ()
def isStr (t : TypeId) : Sem Unit := do
  let .string ← underlying t | stuck ""
  pure ()
def setAt (cs : List Value) (q : Nat) : List Value → List Value
  | [] => cs
  | v :: r => setAt (cs.set q v) (q + 1) r
/-- The same, in one pass. -/
def splice : List Value → Nat → List Value → List Value
  | cs, _, [] => cs
  | c :: cs, q + 1, vs => c :: splice cs q vs
  | _ :: cs, 0, v :: vs => v :: splice cs 0 vs
  | [], _, _ => []
theorem setAt_cons (c : Value) : ∀ (vs cs : List Value) (q : Nat), setAt (c :: cs) (q + 1) vs = c :: setAt cs q vs
  | [], cs, q => rfl
  | v :: vs, cs, q => by
    simp only [setAt, List.set_cons_succ]
    exact setAt_cons c vs _ _
theorem splice_eq : ∀ (cs : List Value) (q : Nat) (vs : List Value), splice cs q vs = setAt cs q vs
  | cs, q, [] => by cases cs <;> cases q <;> rfl
  | c :: cs, q + 1, v :: vs => by
    rw [setAt_cons, ← splice_eq cs q (v :: vs)]
    rfl
  | c :: cs, 0, v :: vs => by
    simp only [splice, setAt, List.set_cons_zero, Nat.zero_add]
    rw [show (1 : Nat) = 0 + 1 from rfl, setAt_cons, ← splice_eq cs 0 vs]
  | [], q, v :: vs => by
    have : ∀ (vs : List Value) (q : Nat), setAt [] q vs = [] := by
      intro vs
      induction vs with
      | nil => intro q; rfl
      | cons v vs ih => intro q; simp only [setAt, List.set_nil]; exact ih _
    rw [this]
    cases q <;> rfl
def evP (e : Env) : List (Nat × Operand) → Option (List (Nat × Value))
  | [] => some []
  | (i, x) :: r =>
    match evV e x, evP e r with
    | some u, some l => some ((i, u) :: l)
    | _, _ => none
def places (P : Program) : List Field → Option (List (Nat × Nat))
  | [] => some []
  | f :: r =>
    match prun P (sizeOf f.type), places P r with
    | some z, some l => some ((f.offset, z) :: l)
    | _, _ => none
def pfill (pl : List (Nat × Nat)) : List Value → List (Nat × Value) → Option (List Value)
  | cs, [] => some cs
  | cs, (i, v) :: r =>
    match pl[i]? with
    | some (off, z) => bif Nat.beq v.cells.size z && Nat.ble (off + v.cells.size) cs.length then pfill pl (splice cs off v.cells.toList) r else none
    | none => none
def pfillS (z : Nat) : List Value → List (Nat × Value) → Option (List Value)
  | cs, [] => some cs
  | cs, (i, v) :: r => bif Nat.beq v.cells.size z && Nat.ble (i * z + v.cells.size) cs.length then pfillS z (splice cs (i * z) v.cells.toList) r else none
def pbuild (P : Program) (t : TypeId) (parts : List (Nat × Value)) : Option Value :=
  match prun P (zeroValue t), prun P (underlying t) with
  | some z, some (.struct fields) =>
    match places P fields.toList with
    | some pl => match pfill pl z.cells.toList parts with | some cs => some (.agg cs.toArray) | none => none
    | none => none
  | _, _ => none
/-- Equality of plain data by its type. -/
def partV (P : Program) (t : TypeId) (cs : Array Value) (off : Nat) : Option Value :=
  match prun P (aggSize t) with
  | some none => cs.toList[off]?
  | some (some m) => some (.agg ((cs.toList.drop off).take m).toArray)
  | none => none
def eqFs (P : Program) (f1 : TypeId → Value → Value → Option Bool) (xs ys : Array Value) : List Field → Option Bool
  | [] => some true
  | f :: fs =>
    match partV P f.type xs f.offset, partV P f.type ys f.offset with
    | some a, some b =>
      match f1 f.type a b, eqFs P f1 xs ys fs with
      | some r, some r' => some (r && r')
      | _, _ => none
    | _, _ => none
def eqT (P : Program) (ok : TypeId → Bool) : Nat → TypeId → Value → Value → Option Bool
  | 0, _, _, _ => none
  | d + 1, t, x, y =>
    match P.underlying t, x, y with
    | some .bool, .bool a, .bool b => some (a == b)
    | some (.int _), .int k a, .int k' b => if k = k' then some (a == b) else none
    | some .string, .string a, .string b => some (a.toList == b.toList)
    | some (.struct fs), .agg xs, .agg ys => bif ok t then eqFs P (eqT P ok d) xs ys fs.toList else none
    | _, _, _ => none
/-- What is known of a program's types, beforehand. -/
structure Tab (P : Program) where
  ok : TypeId → Bool
  okh : ∀ t, ok t = true → P.stoodInHeld t = false ∧ P.eqGuardType P.depth t = false ∧ ∀ f ∈ (P.fieldsOf t).toList, f.name ≠ "_"
  /-- Known memory may be written, where the base knows nothing. -/
  wr : Bool
  base : Addr → Option Value
  /-- Branches may be joined. -/
  cut : Bool
/-- The same, for a walk that writes. -/
def Tab.at {P : Program} (T : Tab P) (M : Addr → Option Value) : Tab P := ⟨T.ok, T.okh, true, M, T.cut⟩
def Tab.off {P : Program} (T : Tab P) : Tab P := ⟨T.ok, T.okh, false, fun _ => none, false⟩
/-- The same, with a cut wherever branches meet. -/
def Tab.cuts {P : Program} (T : Tab P) : Tab P := ⟨T.ok, T.okh, T.wr, T.base, true⟩
def okL : List Nat → TypeId → Bool
  | [], _ => false
  | x :: r, t => bif Nat.beq x t then true else okL r t
def okC (P : Program) : List Nat → Bool
  | [] => true
  | x :: r => (!P.stoodInHeld x && (!P.eqGuardType P.depth x && (P.fieldsOf x).toList.all fun f => !(f.name == "_"))) && okC P r
theorem okL_of {P : Program} : ∀ {L : List Nat}, okC P L = true → ∀ t, okL L t = true → P.stoodInHeld t = false ∧ P.eqGuardType P.depth t = false ∧ ∀ f ∈ (P.fieldsOf t).toList, f.name ≠ "_"
  | [], _, t, h => by simp [okL] at h
  | x :: r, hc, t, h => by
    simp only [okC, Bool.and_eq_true, Bool.not_eq_true'] at hc
    simp only [okL] at h
    cases hk : Nat.beq x t with
    | true =>
      rw [← Nat.eq_of_beq_eq_true hk]
      refine ⟨hc.1.1, hc.1.2.1, fun f hf => ?_⟩
      have := List.all_eq_true.mp hc.1.2.2 f hf
      simpa using this
    | false => rw [hk] at h; exact okL_of hc.2 t h
def tabOf (P : Program) (L : List Nat) (h : okC P L = true) : Tab P := ⟨okL L, okL_of h, false, fun _ => none, false⟩
def pbin (P : Program) (T : Tab P) (op : BinOp) (t : TypeId) (x y : Operand) (a c : Value) : Option Value :=
  match op, a, c with
  | .eql, .agg xs, .agg ys => (eqT P T.ok 10000 t (.agg xs) (.agg ys)).map .bool
  | .neq, .agg xs, .agg ys => (eqT P T.ok 10000 t (.agg xs) (.agg ys)).map fun r => .bool (!r)
  | op, a, c => prun P (do eqGuard op t x y a c; binOp op t a c)
def put (e : Env) (d : Option Tmp) (x : PV) : Env :=
  match d with
  | some t => (t, x) :: e
  | none => e
/-- The place where a step's result goes, laid open first. -/
def withD (d : Option Tmp) (K : Option Tmp → Prop) : Prop :=
  match d with
  | some t => K (some t)
  | none => K none
theorem withD_eq (d : Option Tmp) (K : Option Tmp → Prop) : withD d K = K d := by cases d <;> rfl
def dOk (N : Nat) : Option Tmp → Bool
  | some t => Nat.blt t N
  | none => true
def isGo (P : Program) (f : FuncId) : Bool :=
  match P.funcs[f]? with
  | some fn => fn.body.isSome && !(fn.name == "runtime.NumGoroutine")
  | none => false
/-- What is known of memory. -/
abbrev Mem := Addr → Option Value
def Know (M : Mem) (w : World) : Prop := ∀ ad u, M ad = some u → w.cell? ad = some u
theorem Know.below {M : Mem} {w w' : World} (h : Know M w) (hb : Below w.heap.size w w') : Know M w' := fun ad u hu => by
  have := h ad u hu
  rw [hb.cell (block_lt_of_cell this)]
  exact this
/-- A call that hands back one value in every world of which this is known. -/
structure Ans (P : Program) (M : Mem) (f : FuncId) (args : Array Value) (v : Value) : Prop where
  go : isGo P f = true
  run : ∀ w, Know M w → Calls P f args w fun e w' => e = .returned v ∧ Below w.heap.size w w'
/-- Every temporary that holds map i sees its new entries. -/
def mapE (i : Nat) (l : MapD) : Env → Env
  | [] => []
  | (t, .m j l0) :: r => (t, .m j (bif Nat.beq j i then l else l0)) :: mapE i l r
  | x :: r => x :: mapE i l r
/-- No other map. -/
def oneMap (i : Nat) : Env → Bool
  | [] => true
  | (_, .m j _) :: r => Nat.beq j i && oneMap i r
  | _ :: r => oneMap i r
theorem mapE_look {i : Nat} {l : MapD} : ∀ {e : Env} {t : Nat} {x : PV}, oneMap i e = true → look (mapE i l e) t = some x → (∃ l0, x = .m i l ∧ look e t = some (.m i l0)) ∨ ((∀ j l0, x ≠ .m j l0) ∧ look e t = some x)
  | [], t, x, _, h => by simp [mapE, look] at h
  | (k, v) :: r, t, x, ho, h => by
    cases v with
    | m j l0 =>
      simp only [oneMap, Bool.and_eq_true] at ho
      have hj := Nat.eq_of_beq_eq_true ho.1
      subst hj
      simp only [mapE, look, show Nat.beq j j = true by simp, cond_true] at h ⊢
      cases hk : Nat.beq k t with
      | true => rw [hk] at h; simp only [cond_true, Option.some.injEq] at h; exact .inl ⟨l0, h.symm, rfl⟩
      | false => rw [hk] at h; exact mapE_look ho.2 h
    | _ =>
      simp only [oneMap] at ho
      simp only [mapE, look] at h ⊢
      cases hk : Nat.beq k t with
      | true =>
        rw [hk] at h
        simp only [cond_true, Option.some.injEq] at h
        subst h
        exact .inr ⟨(fun _ _ hh => (by cases hh)), rfl⟩
      | false => rw [hk] at h; exact mapE_look ho h
/-- A map type with strings for keys. -/
def mapTy (t : TypeId) : Sem Unit := do
  let .map k _ ← underlying t | stuck ""
  let .string ← underlying k | stuck ""
  pure ()
/-! The goals that a light walk leaves, each behind a name of its own. -/
def CondK (t : Bool) (A B : Prop) : Prop := cond t A B
theorem CondK.yes {t : Bool} {A B : Prop} (h : CondK t A B) (ht : t = true) : A := by subst ht; exact h
theorem CondK.no {t : Bool} {A B : Prop} (h : CondK t A B) (ht : t = false) : B := by subst ht; exact h
theorem CondK.mk {t : Bool} {A B : Prop} (h : t = true → A) (h' : t = false → B) : CondK t A B := by cases t; exact h' rfl; exact h rfl
inductive LdK (M : Mem) (ad : Addr) (o : Nat) (K : Value → Prop) : Prop where
  | mk (u : Value) (h : M (ad.add o) = some u) (k : K u)
inductive IdxK (base : Option Addr) (len : Nat) (i : Int) (z : Nat) (K : Addr → Prop) : Prop where
  | mk (ad : Addr) (h : base = some ad) (h0 : 0 ≤ i) (h1 : i < (len : Int)) (k : K (ad.add (i.toNat * z)))
inductive IdxS (s : ByteArray) (i : Int) (A : Prop) : Prop where
  | mk (h0 : 0 ≤ i) (h1 : i < (s.size : Int)) (k : A)
def Le (M M' : Mem) : Prop := ∀ ad u, M ad = some u → M' ad = some u
theorem Le.refl (M : Mem) : Le M M := fun _ _ h => h
theorem Le.trans {A B C : Mem} (h : Le A B) (k : Le B C) : Le A C := fun ad u hu => k ad u (h ad u hu)
/-- A row of variables that may be written. -/
def Pl (w : World) (b : Nat) : Prop := ∃ c ty, w.heap[b]? = some (.cells c ty (0, 0))
theorem Pl.of {w w' : World} {b : Nat} (h : Pl w b) (hb : w'.heap[b]? = w.heap[b]?) : Pl w' b := let ⟨c, ty, h⟩ := h; ⟨c, ty, by rw [hb]; exact h⟩
theorem Pl.lt {w : World} {b : Nat} (h : Pl w b) : b < w.heap.size := by
  obtain ⟨c, ty, h⟩ := h
  rcases Nat.lt_or_ge b w.heap.size with h4 | h4
  · exact h4
  · rw [Array.getElem?_eq_none h4] at h; simp at h
theorem Pl.below {w w' : World} {b : Nat} (h : Pl w b) (hb : Below w.heap.size w w') : Pl w' b := h.of (hb.block _ h.lt)
theorem Pl.setCell {w : World} {b : Nat} (h : Pl w b) (ad : Addr) (v : Value) : Pl (w.setCell ad v) b := by
  obtain ⟨c, ty, h⟩ := h
  by_cases hg : ad.block = b
  · subst hg
    exact ⟨if ad.spot.isSome then c else c.setIfInBounds ad.off v, ty, by simp only [World.setCell, Array.getElem?_modify, h, if_true, Option.map_some]⟩
  · exact ⟨c, ty, by simp [World.setCell, Array.getElem?_modify, h, hg]⟩
/-- What is new lies apart from what was known. -/
def Fr (M M' : Mem) : Prop := ∀ ad u, M ad = none → M' ad = some u → ∀ ad' u', M ad' = some u' → ad'.block ≠ ad.block
/-- A call that hands back a value of which R holds, in memory that has grown. -/
structure AnsR (P : Program) (M : Mem) (f : FuncId) (args : Array Value) (R : Mem → Value → Prop) : Prop where
  go : isGo P f = true
  run : ∀ w, Know M w → Calls P f args w fun e w' => ∃ v M', e = .returned v ∧ Le M M' ∧ Know M' w' ∧ (∀ ad u, M' ad = some u → M ad = some u ∨ (w.heap.size ≤ ad.block ∧ Pl w' ad.block)) ∧ R M' v ∧ Below w.heap.size w w'
theorem AnsR.imp {P : Program} {M : Mem} {f : FuncId} {args : Array Value} {R R' : Mem → Value → Prop} (h : AnsR P M f args R) (k : ∀ M' v, Le M M' → R M' v → R' M' v) : AnsR P M f args R' :=
  ⟨h.go, fun w hw => (h.run w hw).mono fun e w' ⟨v, M', h1, h2, h3, h4, h5, h6⟩ => ⟨v, M', h1, h2, h3, h4, k M' v h2 h5, h6⟩⟩
/-- The world but for rows of which M knows. -/
structure BelowM (M : Mem) (w w' : World) : Prop where
  os : w'.os = w.os
  tape : w'.tape = w.tape
  output : w'.output = w.output
  size : w.heap.size ≤ w'.heap.size
  block : ∀ k, k < w.heap.size → (∀ ad u, M ad = some u → ad.block ≠ k) → w'.heap[k]? = w.heap[k]?
/-- A call that writes the memory M, and no other. -/
structure AnsW (P : Program) (M : Mem) (f : FuncId) (args : Array Value) (R : Value → Mem → Prop) : Prop where
  go : isGo P f = true
  run : ∀ w, Know M w → (∀ ad u, M ad = some u → Pl w ad.block) → Calls P f args w fun e w' => ∃ v M', e = .returned v ∧ Know M' w' ∧ (∀ ad u, M' ad = some u → ∃ u0, M ad = some u0) ∧ (∀ ad u, M' ad = some u → Pl w' ad.block) ∧ R v M' ∧ BelowM M w w'
theorem AnsW.imp {P : Program} {M : Mem} {f : FuncId} {args : Array Value} {R R' : Value → Mem → Prop} (h : AnsW P M f args R) (k : ∀ v M', R v M' → R' v M') : AnsW P M f args R' :=
  ⟨h.go, fun w hw hp => (h.run w hw hp).mono fun e w' ⟨v, M', h1, h2, h3, h4, h5, h6⟩ => ⟨v, M', h1, h2, h3, h4, k v M' h5, h6⟩⟩
/-- A store to known memory. -/
inductive WrK (wr : Bool) (base M : Mem) (ad : Addr) (u : Value) (K : Mem → Prop) : Prop where
  | mk (hw : wr = true) (h : (M ad).isSome = true) (hb : base ad = none) (k : ∀ M', M' ad = some u → (∀ a, a ≠ ad → M' a = M a) → K M')
/-- The world but for known rows, with new ones. -/
structure AnsG (P : Program) (M : Mem) (f : FuncId) (args : Array Value) (R : Value → Mem → Prop) : Prop where
  go : isGo P f = true
  run : ∀ w, Know M w → (∀ ad u, M ad = some u → Pl w ad.block) → Calls P f args w fun e w' => ∃ v M', e = .returned v ∧ Know M' w' ∧ (∀ ad u, M' ad = some u → (∃ a u0, M a = some u0 ∧ a.block = ad.block) ∨ w.heap.size ≤ ad.block) ∧ (∀ ad u, M' ad = some u → Pl w' ad.block) ∧ R v M' ∧ BelowM M w w'
def rest (M Mb : Mem) : Mem := fun ad => match Mb ad with | none => M ad | some _ => none
theorem rest_at {M Mb : Mem} {ad : Addr} {u : Value} (h : rest M Mb ad = some u) : Mb ad = none ∧ M ad = some u := by
  unfold rest at h
  cases hm : Mb ad with
  | none => rw [hm] at h; exact ⟨rfl, h⟩
  | some w => rw [hm] at h; cases h
theorem rest_of {M Mb : Mem} {ad : Addr} {u : Value} (hn : Mb ad = none) (h : M ad = some u) : rest M Mb ad = some u := by unfold rest; rw [hn]; exact h
theorem rest_no {M Mb : Mem} {ad : Addr} {u : Value} (hs : Le Mb M) (hn : rest M Mb ad = none) (h : M ad = some u) : Mb ad = some u := by
  unfold rest at hn
  cases hm : Mb ad with
  | none => rw [hm] at hn; rw [h] at hn; cases hn
  | some w => rw [hs ad w hm] at h; exact h
/-- The world but for the known rows that Mb does not know, with new ones. -/
structure AnsB (P : Program) (Mb M : Mem) (f : FuncId) (args : Array Value) (R : Value → Mem → Prop) : Prop where
  go : isGo P f = true
  run : ∀ w, Know M w → (∀ ad u, M ad = some u → Mb ad = none → Pl w ad.block) → Calls P f args w fun e w' => ∃ v M', e = .returned v ∧ Know M' w' ∧ Le Mb M' ∧ (∀ ad u, M' ad = some u → Mb ad = none → (∃ a u0, M a = some u0 ∧ Mb a = none ∧ a.block = ad.block) ∨ w.heap.size ≤ ad.block) ∧ (∀ ad u, M' ad = some u → Mb ad = none → Pl w' ad.block) ∧ R v M' ∧ BelowM (rest M Mb) w w'
/-- A part of a slice; its place said by the walker. -/
inductive SlN (lo hi : Int) (cap : Nat) (base : Option Addr) (z : Nat) (K : Option Addr → Nat → Nat → Prop) : Prop where
  | mk (l h : Nat) (A : Option Addr) (k' c' : Nat) (el : lo = (l : Int)) (eh : hi = (h : Int)) (h1 : l ≤ h) (h2 : h ≤ cap) (hA : (if cap = l then base else base.map (·.add (l * z))) = A) (hk : h - l = k') (hc : cap - l = c') (k : K A k' c')
inductive Sl3K (lo hi mx : Int) (cap : Nat) (K : Nat → Nat → Nat → Prop) : Prop where
  | mk (l h m : Nat) (el : lo = (l : Int)) (eh : hi = (h : Int)) (em : mx = (m : Int)) (h1 : l ≤ h) (h2 : h ≤ m) (h3 : m ≤ cap) (k : K l h m)
inductive CallQ (P : Program) (M : Mem) (f : FuncId) (args : Array Value) (K : Value → Prop) : Prop where
  | mk (u : Value) (h : Ans P M f args u) (k : K u)
inductive CallK (P : Program) (wr : Bool) (base : Mem) (M : Mem) (f : FuncId) (args : Array Value) (K : Value → Mem → Prop) : Prop where
  | mk (u : Value) (h : Ans P M f args u) (k : K u M)
  | mr (R : Mem → Value → Prop) (h : AnsR P M f args R) (k : ∀ v M', Le M M' → R M' v → K v M')
  | mf (R : Mem → Value → Prop) (h : AnsR P M f args R) (k : ∀ v M', Le M M' → Fr M M' → R M' v → K v M')
  | mx (R : Value → Mem → Prop) (hw : wr = true) (h : AnsW P M f args R) (hb : ∀ ad u, M ad = some u → base ad = none) (k : ∀ v Mx' M', R v Mx' → Le Mx' M' → (∀ ad, M ad = none → M' ad = M ad) → K v M')
  | mw (Mx : Mem) (R : Value → Mem → Prop) (hw : wr = true) (h : AnsW P Mx f args R) (hs : Le Mx M) (hb : ∀ ad u, Mx ad = some u → base ad = none) (hd : ∀ ad u ad' u', Mx ad = some u → M ad' = some u' → Mx ad' = none → ad.block ≠ ad'.block)
      (k : ∀ v Mx' M', R v Mx' → Le Mx' M' → (∀ ad, Mx ad = none → M' ad = M ad) → K v M')
  | ex (u : Value) (hw : wr = true) (h : ∀ w, Know M w → (∀ ad u, M ad = some u → base ad = none → Pl w ad.block) → (callFunc f args).run P w = .ok (.value u) w) (k : K u M)
  | mg (Mx : Mem) (R : Value → Mem → Prop) (hw : wr = true) (h : AnsG P Mx f args R) (hs : Le Mx M) (hb : ∀ ad u, Mx ad = some u → base ad = none) (hd : ∀ ad u ad' u', Mx ad = some u → M ad' = some u' → Mx ad' = none → ad.block ≠ ad'.block)
      (k : ∀ v Mx' M', R v Mx' → Le Mx' M' → (∀ ad u, Mx ad = none → M ad = some u → M' ad = some u) → (∀ ad u, M' ad = some u → Mx' ad = some u ∨ (Mx ad = none ∧ M ad = some u)) → (∀ ad u, Mx' ad = some u → (∃ a u0, Mx a = some u0 ∧ a.block = ad.block) ∨ ∀ a u', M a = some u' → a.block ≠ ad.block) → K v M')
  | mb (Mb : Mem) (R : Value → Mem → Prop) (hw : wr = true) (h : AnsB P Mb M f args R) (hs : Le Mb M) (hb : ∀ ad u, M ad = some u → Mb ad = none → base ad = none) (hd : ∀ ad u ad' u', M ad = some u → Mb ad = none → Mb ad' = some u' → ad.block ≠ ad'.block)
      (k : ∀ v Mx' M', R v Mx' → Le Mx' M' → Le Mb M' → (∀ ad u, Mx' ad = some u → Mb ad = none → (∃ a u0, M a = some u0 ∧ Mb a = none ∧ a.block = ad.block) ∨ ∀ a u', M a = some u' → a.block ≠ ad.block) → K v M')
/-- A call amid operations whose order is drawn: a part of known memory may be written. -/
inductive CallB (P : Program) (base : Mem) (M : Mem) (f : FuncId) (args : Array Value) (K : Value → Mem → Prop) : Prop where
  | mk (u : Value) (h : Ans P M f args u) (k : K u M)
  | mr (R : Mem → Value → Prop) (h : AnsR P M f args R) (k : ∀ v M', Le M M' → R M' v → K v M')
  | mb (Mb : Mem) (R : Value → Mem → Prop) (h : AnsB P Mb M f args R) (hs : Le Mb M) (hb : ∀ ad u, M ad = some u → Mb ad = none → base ad = none) (hd : ∀ ad u ad' u', M ad = some u → Mb ad = none → Mb ad' = some u' → ad.block ≠ ad'.block)
      (k : ∀ v Mx' M', R v Mx' → Le Mx' M' → Le Mb M' → (∀ ad u, Mx' ad = some u → Mb ad = none → (∃ a u0, M a = some u0 ∧ Mb a = none ∧ a.block = ad.block) ∨ ∀ a u', M a = some u' → a.block ≠ ad.block) → K v M')
inductive IdxA (len : Nat) (i : Int) (z : Nat) (K : Nat → Prop) : Prop where
  | mk (k' : Nat) (h : i.toNat * z = k') (h0 : 0 ≤ i) (h1 : i < (len : Int)) (k : K k')
inductive LdA (cs : List Value) (k : Nat) (K : Value → Prop) : Prop where
  | mk (u : Value) (h : cs[k]? = some u) (k : K u)
inductive MkK (len c : Int) (bytes : Nat) (K : Nat → Prop) : Prop where
  | mk (h0 : c = len) (h1 : 0 ≤ len) (h2 : len ≤ 9223372036854775807) (h3 : (bytes : Int) * len ≤ 281474976710656) (k : K len.toNat)
inductive SlK (lo hi : Int) (cap : Nat) (K : Nat → Nat → Prop) : Prop where
  | mk (l h : Nat) (el : lo = (l : Int)) (eh : hi = (h : Int)) (h1 : l ≤ h) (h2 : h ≤ cap) (k : K l h)
/-- What is appended out of known memory. -/
inductive SrcK (M : Mem) (base : Option Addr) (m : Nat) (K : List Value → Prop) : Prop where
  | mk (ds : List Value) (hl : ds.length = m) (h : ∀ o u, ds[o]? = some u → ∃ ad, base = some ad ∧ M (ad.add o) = some u) (k : K ds)
inductive AppK (i : Option Nat) (m k by_ : Nat) (ds : List Value) (one : List Value → Bool) (Z : Prop) (K : Nat → Prop) : Prop where
  | mk (h : (2 * m + 512) * by_ ≤ 281474976710656) (hm : m ≤ 1000000000000) (h0 : 0 < k ∨ i.isSome = true) (ho : one ds = true) (k : ∀ cap, m ≤ cap → K cap)
  | z (hk : k = 0) (hi : i = none) (h : Z)
structure Owe (p A : Prop) : Prop where
  h : p
  k : A
structure AndK (A B : Prop) : Prop where
  l : A
  r : B
inductive PubK (M : Mem) (cs : List Value) (n : Nat) (K : Addr → Mem → Prop) : Prop where
  | mk (h : ∀ ad M', Le M M' → (∀ o u, cs[o]? = some u → M' (ad.add o) = some u) → K ad M')
  | fr (h : ∀ ad M', Le M M' → (∀ o u, cs[o]? = some u → M' (ad.add o) = some u) → (∀ o, o < n → ∃ u, M' (ad.add o) = some u) → (∀ a u, M a = some u → a.block ≠ ad.block) → (∀ a u, M' a = some u → M a = some u ∨ a.block = ad.block) → K ad M')
structure DrawK (b : Bool) (A : Prop) : Prop where
  lex : b = true
  k : A
def GuardK (t want : Bool) (A B : Prop) : Prop :=
  match want with
  | true => cond t A B
  | false => cond t B A
theorem GuardK.yes {t want : Bool} {A B : Prop} (h : GuardK t want A B) (ht : t = want) : A := by subst ht; cases t <;> exact h
theorem GuardK.no {t want : Bool} {A B : Prop} (h : GuardK t want A B) (ht : t = !want) : B := by subst ht; cases want <;> exact h
theorem GuardK.mk {t want : Bool} {A B : Prop} (h : t = want → A) (h' : t = (!want) → B) : GuardK t want A B := by cases t <;> cases want <;> first | exact h rfl | exact h' rfl
theorem CondK.tt {A B : Prop} (h : A) : CondK true A B := h
theorem CondK.ff {A B : Prop} (h : B) : CondK false A B := h
theorem CondK.not {t : Bool} {A B : Prop} (h : CondK t B A) : CondK (!t) A B := by cases t <;> exact h
theorem CondK.no' {t : Bool} {A B : Prop} (ht : t = false) (h : B) : CondK t A B := by subst ht; exact CondK.ff h
theorem CondK.yes' {t : Bool} {A B : Prop} (ht : t = true) (h : A) : CondK t A B := by subst ht; exact CondK.tt h
/-- A list laid out before one goes on. -/
def nfK : List Value → (List Value → Prop) → Prop
  | [], K => K []
  | v :: r, K => nfK r fun r' => K (v :: r')
theorem nfK_eq : ∀ {l : List Value} {K : List Value → Prop}, nfK l K = K l
  | [], K => rfl
  | v :: r, K => nfK_eq (l := r) (K := fun r' => K (v :: r'))
/-- m cells from an address on. -/
def ldN (M : Mem) (ad : Addr) : Nat → Nat → (List Value → Prop) → Prop
  | _, 0, K => K []
  | j, m + 1, K => LdK M ad j fun v => ldN M ad (j + 1) m fun vs => K (v :: vs)
/-- The function that is called: named, or a value without captures. -/
def calleeF (e : Env) : Operand → Option FuncId
  | .func f => some f
  | .tmp t =>
    match look e t with
    | some (.v (.func (.func f) u v)) =>
      match u.toList, v.toList with
      | [], [] => some f
      | _, _ => none
    | _ => none
  | _ => none
/-- The same, with what the function value holds. -/
def calleeC (e : Env) : Operand → Option (FuncId × List Value)
  | .func f => some (f, [])
  | .tmp t =>
    match look e t with
    | some (.v (.func (.func f) u v)) =>
      match u.toList with
      | [] => some (f, v.toList)
      | _ => none
    | _ => none
  | _ => none
/-- A slice of bytes turned into a string. -/
def strTy (s d : TypeId) : Sem Unit := do
  let .slice e ← underlying s | stuck ""
  let .string ← underlying d | stuck ""
  let .int .u8 ← underlying e | stuck ""
  pure ()
def bytesL : List Value → Option (List Int)
  | [] => some []
  | .int .u8 n :: r => match bytesL r with | some l => some (n :: l) | none => none
  | _ => none
theorem bytesL_out : ∀ {cs : List Value} {ns : List Int}, bytesL cs = some ns → cs = ns.map (Value.int .u8)
  | [], ns, h => by simp only [bytesL, Option.some.injEq] at h; subst h; rfl
  | v :: r, ns, h => by
    unfold bytesL at h
    split at h
    · rename_i h0; cases h0
    · rename_i n r' h0
      cases h0
      split at h
      · rename_i l hl
        simp only [Option.some.injEq] at h
        subst h
        rw [bytesL_out hl]
        rfl
      · cases h
    · cases h
/-- The bytes of an own row, said by the walker. -/
inductive StrK (cs : List Value) (K : List Int → Prop) : Prop where
  | mk (ns : List Int) (h : bytesL cs = some ns) (k : K ns)
theorem bytesL_map : ∀ (ns : List Int), bytesL (ns.map (Value.int .u8)) = some ns
  | [] => rfl
  | n :: r => by simp only [List.map_cons, bytesL, bytesL_map r]
def bndOf (e : Env) (dflt : Int) : Option Operand → Option Int
  | none => some dflt
  | some x =>
    match evV e x with
    | some (.int _ i) => some i
    | _ => none
/-- A divisor, said not to be zero. -/
inductive DivK (n : Int) (A : Prop) : Prop where
  | mk (h : n ≠ 0) (k : A)
/-- Two strings, one behind the other; a division. -/
def catOr (op : BinOp) (a c : Value) (K : PV → Prop) (A : Prop) : Prop :=
  match op, a, c with
  | .add, .string s, .string s' => Owe (s.size + s'.size ≤ 9223372036854775807) (K (.v (.string (s ++ s'))))
  | .rem, .int k x, .int k' n => match decide (k = k') with | true => DivK n (K (.v (.int k (x.tmod n)))) | false => False
  | .quo, .int k x, .int k' n => match decide (k = k') with | true => DivK n (K (.v (.int k (k.wrap (x.tdiv n))))) | false => False
  | _, _, _ => A
def qop (P : Program) (T : Tab P) (M : Mem) (o : Oper) (e : Env) (b : Bx) (K : PV → Prop) : Prop :=
  match o.op with
  | .move x | .assign x => match ev e x with | some u => K u | none => False
  | .pick c x y =>
    match evV e c, evV e x, evV e y with
    | some (.bool t), some u, some u' => CondK t (K (.v u)) (K (.v u'))
    | _, _, _ => False
  | .binOp op t x y _ =>
    match evV e x, evV e y with
    | some a, some c => catOr op a c K (match pbin P T op t x y a c with | some r => K (.v r) | none => False)
    | _, _ => False
  | .unOp op _ x =>
    match evV e x with
    | some a => match prun P (Op.unary op a) with | some r => K (.v r) | none => False
    | none => False
  | .convert s d x =>
    match evV e x with
    | some a => match prun P (convert s d a) with | some r => K (.v r) | none => False
    | none =>
      match ev e x with
      | some (.s i _ _ z) =>
        match lookB b i, prun P (strTy s d) with
        | some cs, some _ =>
          bif Nat.beq z 1 then StrK cs fun ns => K (.v (.string (ns.foldl (fun r n => r.push (UInt8.ofNat n.toNat)) ByteArray.empty))) else False
        | _, _ => False
      | _ => False
  | .field t x f =>
    match evV e x with
    | some (.agg cs) => match prun P (fieldOfT t f) with | some (off, ft) => (match partV P ft cs off with | some r => K (.v r) | none => False) | none => False
    | _ => False
  | .build t parts =>
    match evP e parts.toList with
    | some l => match pbuild P t l with | some (.agg cs) => nfK cs.toList fun l => K (.v (.agg l.toArray)) | _ => False
    | none => False
  | .extract x i =>
    match evV e x with
    | some a => match prun P (Instr.extract a i) with | some r => K (.v r) | none => False
    | none => False
  | .nilCheck x =>
    match ev e x with
    | some (.p i q) => K (.p i q)
    | some (.e ad q) => K (.e ad q)
    | some (.q i k) => K (.q i k)
    | some (.v (.pointer (some ad))) => K (.e ad 0)
    | _ => False
  | .fieldAddr s x f =>
    match ev e x with
    | some (.p i q) => match prun P (fieldOff s f) with | some off => K (.p i (q + off)) | none => False
    | some (.e ad q) => match prun P (fieldOff s f) with | some off => K (.e ad (q + off)) | none => False
    | some (.q i k) => match prun P (fieldOff s f) with | some off => K (.q i (k + off)) | none => False
    | _ => False
  | .indexAddr t x y =>
    match ev e x, evV e y with
    | some (.v (.slice base len _)), some (.int _ i) =>
      match prun P (elemSize t) with
      | some z => IdxK base len i z fun ad => K (.e ad 0)
      | none => False
    | some (.s j len _ _), some (.int _ i) =>
      match prun P (elemSize t) with
      | some z => IdxA len i z fun k => K (.q j k)
      | none => False
    | _, _ => False
  | .slice t x lo (some hi) (some mx) =>
    match evV e x, evV e mx with
    | some (.slice base len cap), some (.int _ m) =>
      match prun P (elemSize t), bndOf e 0 lo, bndOf e 0 (some hi) with
      | some z, some a, some c => Sl3K a c m cap fun l h m => K (.v (.slice (if m = l then base else base.map (·.add (l * z))) (h - l) (m - l)))
      | _, _, _ => False
    | _, _ => False
  | .slice t x lo hi none =>
    match evV e x with
    | some (.slice base len cap) =>
      match prun P (elemSize t), bndOf e 0 lo, bndOf e (len : Int) hi with
      | some z, some a, some c => bif T.wr then SlN a c cap base z fun A k c => K (.v (.slice A k c)) else SlK a c cap fun l h => K (.v (.slice (if cap = l then base else base.map (·.add (l * z))) (h - l) (cap - l)))
      | _, _, _ => False
    | some (.string s) =>
      match prun P (isStr t), bndOf e 0 lo, bndOf e (s.size : Int) hi with
      | some _, some a, some c => SlK a c s.size fun l h => K (.v (.string (s.extract l h)))
      | _, _, _ => False
    | _ => False
  | .index t x y =>
    match evV e x, evV e y with
    | some (.string s), some (.int _ i) =>
      match prun P (isStr t) with
      | some _ => IdxS s i (K (.v (.int .u8 ((s.data.getD i.toNat 0).toNat : Int))))
      | none => False
    | _, _ => False
  | .load t x =>
    match prun P (aggSize t) with
    | some none =>
      match ev e x with
      | some (.p i q) =>
        match lookB b i with
        | some cs => match cs[q]? with | some u => K (.v u) | none => False
        | none => False
      | some (.e ad q) => LdK M ad q fun u => K (.v u)
      | some (.q i k) =>
        match lookB b i with
        | some cs => LdA cs k fun u => K (.v u)
        | none => False
      | _ => False
    | some (some m) =>
      match ev e x with
      | some (.p i q) =>
        match lookB b i with
        | some cs => bif Nat.ble (q + m) cs.length then nfK ((cs.drop q).take m) fun l => K (.v (.agg l.toArray)) else False
        | none => False
      | some (.e ad q) => ldN M ad q m fun vs => K (.v (.agg vs.toArray))
      | some (.q i k) =>
        match lookB b i with
        | some cs => Owe (k + m ≤ cs.length) (K (.v (.agg ((cs.drop k).take m).toArray)))
        | none => False
      | _ => False
    | none => False
  | .call { callee := .value x, args := xs, argTypes := _ } =>
    match calleeC e x, evL e xs.toList with
    | some (f, []), some l => CallQ P M f l.toArray fun u => K (.v u)
    | some (f, c :: r), some l => CallQ P M f (l ++ c :: r).toArray fun u => K (.v u)
    | _, _ => False
  | .call { callee := .builtin .max, args := xs, argTypes := ts } =>
    match evL e xs.toList with
    | some l => match prun P (Builtin.max_ ts o.type l.toArray) with | some r => K (.v r) | none => False
    | none => False
  | .call { callee := .builtin .min, args := xs, argTypes := ts } =>
    match evL e xs.toList with
    | some l => match prun P (Builtin.min_ ts o.type l.toArray) with | some r => K (.v r) | none => False
    | none => False
  | .call { callee := .builtin .len, args := xs, argTypes := ts } =>
    match xs.toList with
    | [x] =>
      match ev e x with
      | some (.v u) => match prun P (Builtin.len_ ts o.type #[u]) with | some r => K (.v r) | none => False
      | some (.s _ len cap _) => match prun P (Builtin.len_ ts o.type #[.slice none len cap]) with | some r => K (.v r) | none => False
      | some (.m _ l) =>
        match ts.toList with
        | [mty] => match prun P (mapTy mty) with | some _ => K (.v (goInt l.length)) | none => False
        | _ => False
      | _ => False
    | _ => False
  | .call { callee := .builtin .cap, args := xs, argTypes := ts } =>
    match xs.toList with
    | [x] =>
      match evV e x with
      | some u => match prun P (Builtin.cap_ ts o.type #[u]) with | some r => K (.v r) | none => False
      | none => False
    | _ => False
  | _ => False

/-- Where a walk began: the world; the blocks that the function owns although they stood before; what stands for its first rows. -/
structure Base where
  w : World
  X : Nat → Prop
  k : Nat
  g : Nat → Nat
/-- A block that the function may write. -/
def Base.own (w0 : Base) (g : Nat) : Prop := w0.w.heap.size ≤ g ∨ w0.X g
structure BelowX (w0 : Base) (w : World) : Prop where
  os : w.os = w0.w.os
  tape : w.tape = w0.w.tape
  output : w.output = w0.w.output
  size : w0.w.heap.size ≤ w.heap.size
  block : ∀ k, k < w0.w.heap.size → ¬ w0.X k → w.heap[k]? = w0.w.heap[k]?
theorem BelowX.trans {w0 : Base} {w w' : World} (h : BelowX w0 w) (k : Below w0.w.heap.size w w') : BelowX w0 w' :=
  ⟨k.os.trans h.os, k.tape.trans h.tape, k.output.trans h.output, Nat.le_trans h.size k.size, fun i hi hx => (k.block i hi).trans (h.block i hi hx)⟩
theorem BelowX.alloc {w0 : Base} {w : World} (h : BelowX w0 w) (o : Obj) : BelowX w0 (w.alloc o) := h.trans ((Below.refl _ _).alloc h.size _)
theorem BelowX.setAt {w0 : Base} {w : World} (h : BelowX w0 w) {g : Nat} (hg : w0.own g) {hp : Array Obj} (hs : hp.size = w.heap.size) (hk : ∀ k, k ≠ g → hp[k]? = w.heap[k]?) : BelowX w0 { w with heap := hp } :=
  ⟨h.os, h.tape, h.output, by show _ ≤ hp.size; rw [hs]; exact h.size, fun k hk1 hx => by
    show hp[k]? = _
    rw [hk k (fun he => by subst he; rcases hg with hg | hg; omega; exact hx hg)]
    exact h.block k hk1 hx⟩
theorem BelowX.setCell {w0 : Base} {w : World} (h : BelowX w0 w) {p : Addr} (hg : w0.own p.block) (v : Value) : BelowX w0 (w.setCell p v) :=
  h.setAt (hp := (w.setCell p v).heap) hg (by simp [World.setCell]) fun k hk => Below.heap_setCell w _ _ _ hk
/-- A slice over an own array says truly how long it is, and how far it may grow. -/
def Good (w0 : Base) (σ : Nat → Nat) (b : Bx) (w : World) : PV → Prop
  | .s i len cap z => ∀ cs, lookB b i = some cs → cs.length = len * z ∧ len ≤ cap ∧ ∃ c ty, w.heap[σ i]? = some (.cells c ty (0, 0)) ∧ c.size = cap * z
  | .m i l => w0.own (σ i) ∧ MapAt w (σ i) l
  | _ => True
structure Rel (M0 : Mem) (w0 : Base) (N : Nat) (σ : Nat → Nat) (e : Env) (b : Bx) (n : Nat) (M : Mem) (a : Act) (w : World) : Prop where
  size : a.tmps.size = N
  tmp : ∀ t x, look e t = some x → a.tmps.getD t undef = conc σ x
  elt : ∀ t x, look e t = some x → ∀ i, idOf x = some i → i < n
  defers : a.defers = []
  below : BelowX w0 w
  kn : Know M w
  le : ∀ ad u, M0 ad = some u → ¬ w0.X ad.block → M ad = some u
  nw : ∀ ad u, M ad = some u → M0 ad = some u ∨ w0.own ad.block
  lt : ∀ i cs, lookB b i = some cs → i < n
  box : ∀ i cs, lookB b i = some cs → w0.own (σ i) ∧ ∃ ty ex, w.heap[σ i]? = some (.cells (cs ++ ex).toArray ty (0, 0))
  inj : ∀ i j ci cj, lookB b i = some ci → lookB b j = some cj → σ i = σ j → i = j
  dis : ∀ i cs, lookB b i = some cs → ∀ ad u, M ad = some u → ad.block ≠ σ i
  sl : ∀ t x, look e t = some x → Good w0 σ b w x
  fix : ∀ i, i < w0.k → σ i = w0.g i
  kn0 : w0.k ≤ n
  nf : ∀ ad u, M ad = some u → (M0 ad = none ∨ w0.X ad.block) → Pl w ad.block
/-- What the walk may write lies in its own blocks. -/
class Own {P : Program} (T : Tab P) (M0 : Mem) (w0 : Base) : Prop where
  own : T.wr = true → ∀ ad u, T.base ad = none → M0 ad = some u → w0.X ad.block
  lt : T.wr = true → ∀ ad u, M0 ad = some u → ad.block < w0.w.heap.size
instance {P : Program} (T : Tab P) (M0 : Mem) (w0 : Base) : Own T.off M0 w0 := ⟨fun h => (by cases h), fun h => (by cases h)⟩
section
variable {P : Program} {T : Tab P} {M0 M : Mem} {w0 : Base} {N : Nat} {σ : Nat → Nat} {e : Env} {b : Bx} {n : Nat} {a : Act} {w : World}
theorem Rel.ev (h : Rel M0 w0 N σ e b n M a w) {x : Operand} {u : PV} (hx : ev e x = some u) : a.eval x = conc σ u := by
  cases x with
  | tmp t => exact h.tmp t u hx
  | const v => simp only [Lw.ev, Option.some.injEq] at hx; subst hx; rfl
  | global g => simp [Lw.ev] at hx
  | func f => simp only [Lw.ev, Option.some.injEq] at hx; subst hx; rfl
theorem Rel.evV (h : Rel M0 w0 N σ e b n M a w) {x : Operand} {u : Value} (hx : evV e x = some u) : a.eval x = u := by
  unfold Lw.evV at hx
  split at hx
  · rename_i u' h1
    simp only [Option.some.injEq] at hx
    subst hx
    exact h.ev h1
  · simp at hx
theorem Rel.evL (h : Rel M0 w0 N σ e b n M a w) : ∀ {xs : List Operand} {l : List Value}, evL e xs = some l → xs.map a.eval = l
  | [], l, hx => by simp only [Lw.evL, Option.some.injEq] at hx; subst hx; rfl
  | x :: r, l, hx => by
    simp only [Lw.evL] at hx
    split at hx
    · rename_i u l' h1 h2
      simp only [Option.some.injEq] at hx
      subst hx
      simp [h.evV h1, Rel.evL h h2]
    · simp at hx
theorem Rel.evP (h : Rel M0 w0 N σ e b n M a w) : ∀ {xs : List (Nat × Operand)} {l : List (Nat × Value)}, evP e xs = some l → xs.map (fun (x : Nat × Operand) => (x.1, a.eval x.2)) = l
  | [], l, hx => by simp only [Lw.evP, Option.some.injEq] at hx; subst hx; rfl
  | (i, x) :: r, l, hx => by
    simp only [Lw.evP] at hx
    split at hx
    · rename_i u l' h1 h2
      simp only [Option.some.injEq] at hx
      subst hx
      simp [h.evV h1, Rel.evP h h2]
    · simp at hx
theorem Rel.hsz (h : Rel M0 w0 N σ e b n M a w) {i : Nat} {cs : List Value} (hi : lookB b i = some cs) : σ i < w.heap.size := by
  obtain ⟨h2, ty, ex, h3⟩ := h.box i cs hi
  rcases Nat.lt_or_ge (σ i) w.heap.size with h4 | h4
  · exact h4
  · rw [Array.getElem?_eq_none h4] at h3; simp at h3
theorem Rel.world (h : Rel M0 w0 N σ e b n M a w) {w' : World} (hb : Below w.heap.size w w') : Rel M0 w0 N σ e b n M a w' :=
  ⟨h.size, h.tmp, h.elt, h.defers, h.below.trans (hb.mono h.below.size), h.kn.below hb, h.le, h.nw, h.lt, fun i cs hi => by
    obtain ⟨h2, ty, ex, h3⟩ := h.box i cs hi
    refine ⟨h2, ty, ex, ?_⟩
    rw [hb.block _ (h.hsz hi)]
    exact h3, h.inj, h.dis, fun t x hx => by
    have := h.sl t x hx
    cases x with
    | s i len cap z =>
      intro cs hi
      obtain ⟨g1, g2, c, ty, g3, g4⟩ := this cs hi
      exact ⟨g1, g2, c, ty, by rw [hb.block _ (h.hsz hi)]; exact g3, g4⟩
    | m i l => exact ⟨this.1, this.2.of (hb.block _ this.2.lt)⟩
    | _ => trivial, h.fix, h.kn0, fun ad u hu h0 => (h.nf ad u hu h0).below hb⟩
theorem Rel.mem (h : Rel M0 w0 N σ e b n M a w) {M' : Mem} {B : Nat} {w' : World} (hb : Below w.heap.size w w') (hk : Know M' w') (hl : Le M M') (hn : ∀ ad u, M' ad = some u → M ad = some u ∨ (w.heap.size ≤ ad.block ∧ Pl w' ad.block)) : Rel M0 w0 N σ e b n M' a w' :=
  ⟨h.size, h.tmp, h.elt, h.defers, h.below.trans (hb.mono h.below.size), hk, fun ad u hu hx => hl _ _ (h.le ad u hu hx), fun ad u hu => by
    rcases hn ad u hu with h1 | ⟨h1, _⟩
    · exact h.nw ad u h1
    · exact .inr (.inl (Nat.le_trans h.below.size h1)), h.lt, (h.world hb).box, h.inj, fun i cs hi ad u hu => by
    rcases hn ad u hu with h1 | ⟨h1, _⟩
    · exact h.dis i cs hi ad u h1
    · have := h.hsz hi; omega, (h.world hb).sl, h.fix, h.kn0, fun ad u hu h0 => by
    rcases hn ad u hu with h1 | h1
    · exact (h.nf ad u h1 h0).below hb
    · exact h1.2⟩
theorem Rel.put (h : Rel M0 w0 N σ e b n M a w) {d : Option Tmp} {x : PV} (hd : dOk N d = true) (hx : ∀ i, idOf x = some i → i < n) (hgd : Good w0 σ b w x) : Rel M0 w0 N σ (put e d x) b n M (a.put d (conc σ x)) w := by
  cases d with
  | none => exact h
  | some t =>
    have ht : t < a.tmps.size := by rw [h.size]; exact Nat.blt_eq.mp hd
    refine ⟨by simp [Act.put, h.size], fun t' y hy => ?_, fun t' y hy i hi => ?_, h.defers, h.below, h.kn, h.le, h.nw, h.lt, h.box, h.inj, h.dis, fun t' y hy => ?_, h.fix, h.kn0, h.nf⟩
    · simp only [Lw.put, look] at hy
      by_cases htt : t = t'
      · subst htt
        rw [show Nat.beq t t = true by simp] at hy
        simp only [cond_true, Option.some.injEq] at hy
        subst hy
        simp [Act.put, ht, Array.getD_eq_getD_getElem?]
      · rw [show Nat.beq t t' = false from by cases hh : Nat.beq t t' with | false => rfl | true => exact absurd (Nat.eq_of_beq_eq_true hh) htt] at hy
        have := h.tmp t' y hy
        simp only [Act.put, Array.getD_eq_getD_getElem?] at this ⊢
        rw [Array.getElem?_setIfInBounds_ne htt]
        exact this
    · simp only [Lw.put, look] at hy
      by_cases htt : t = t'
      · subst htt
        rw [show Nat.beq t t = true by simp] at hy
        simp only [cond_true, Option.some.injEq] at hy
        subst hy
        exact hx i hi
      · rw [show Nat.beq t t' = false from by cases hh : Nat.beq t t' with | false => rfl | true => exact absurd (Nat.eq_of_beq_eq_true hh) htt] at hy
        exact h.elt t' y hy i hi
    · simp only [Lw.put, look] at hy
      by_cases htt : t = t'
      · subst htt
        rw [show Nat.beq t t = true by simp] at hy
        simp only [cond_true, Option.some.injEq] at hy
        subst hy
        exact hgd
      · rw [show Nat.beq t t' = false from by cases hh : Nat.beq t t' with | false => rfl | true => exact absurd (Nat.eq_of_beq_eq_true hh) htt] at hy
        exact h.sl t' y hy
theorem Rel.cellB (h : Rel M0 w0 N σ e b n M a w) {i q : Nat} {cs : List Value} {u : Value} (hi : lookB b i = some cs) (hu : cs[q]? = some u) : w.cell? ⟨σ i, q, none⟩ = some u := by
  obtain ⟨h2, ty, ex, h3⟩ := h.box i cs hi
  have hlt : q < cs.length := by
    rcases Nat.lt_or_ge q cs.length with h1 | h1
    · exact h1
    · rw [List.getElem?_eq_none h1] at hu; simp at hu
  simp only [World.cell?, h3]
  simp [List.getElem?_append_left hlt, hu]
theorem Rel.cellW (h : Rel M0 w0 N σ e b n M a w) {ad : Addr} {u : Value} (hu : M ad = some u) : w.cell? ad = some u := h.kn ad u hu
end

/-- The world behind a change of the map's own object. -/
theorem Rel.setMap {M0 M : Mem} {w0 : Base} {N : Nat} {σ : Nat → Nat} {e : Env} {b : Bx} {n : Nat} {a : Act} {w : World} (h : Rel M0 w0 N σ e b n M a w) {i : Nat} {l0 l : MapD} {o : Obj} (hf : w0.own (σ i)) (h0 : MapAt w (σ i) l0) (ho : oneMap i e = true)
    (hm : MapAt { w with heap := w.heap.setIfInBounds (σ i) o } (σ i) l) : Rel M0 w0 N σ (mapE i l e) b n M a { w with heap := w.heap.setIfInBounds (σ i) o } := by
  have hne : ∀ {r : Nat}, r ≠ σ i → (w.heap.setIfInBounds (σ i) o)[r]? = w.heap[r]? := fun {r} hr => by simp [Ne.symm hr]
  refine ⟨h.size, fun t x hx => ?_, fun t x hx j hj => ?_, h.defers, h.below.setAt hf (by simp) fun k hk => hne hk, fun ad u hu => ?_, h.le, h.nw, h.lt, fun j cs hj => ?_, h.inj, h.dis, fun t x hx => ?_, h.fix, h.kn0, fun ad u hu hx => (h.nf ad u hu hx).of (hne (by
    intro hb
    obtain ⟨c, ty, h2⟩ := h.nf ad u hu hx
    obtain ⟨es, c', h1, _⟩ := h0.at_
    rw [hb, h1] at h2
    cases h2))⟩
  · rcases mapE_look ho hx with ⟨l1, rfl, h1⟩ | ⟨_, h1⟩
    · rw [h.tmp t _ h1]; rfl
    · exact h.tmp t x h1
  · rcases mapE_look ho hx with ⟨l1, rfl, h1⟩ | ⟨_, h1⟩
    · exact h.elt t _ h1 j hj
    · exact h.elt t x h1 j hj
  · have hk := h.kn ad u hu
    have hb : ad.block ≠ σ i := by
      intro hb
      obtain ⟨es, c, h1, _⟩ := h0.at_
      simp [World.cell?, hb, h1] at hk
    simp only [World.cell?, hne hb] at hk ⊢
    exact hk
  · obtain ⟨h1, ty, ex, h2⟩ := h.box j cs hj
    exact ⟨h1, ty, ex, by rw [hne (h0.ne h2).symm]; exact h2⟩
  · rcases mapE_look ho hx with ⟨l1, rfl, h1⟩ | ⟨hnm, h1⟩
    · exact ⟨hf, hm⟩
    · have hg := h.sl t x h1
      cases x with
      | s j len cap z =>
        intro cs hj
        obtain ⟨g1, g2, c, ty, g3, g4⟩ := hg cs hj
        exact ⟨g1, g2, c, ty, by rw [hne (h0.ne g3).symm]; exact g3, g4⟩
      | m j l1 => exact absurd rfl (hnm j l1)
      | _ => trivial
theorem prun_bind {α β : Type} {P : Program} : ∀ (s : Sem α) (f : α → Sem β), prun P (s >>= f) = (prun P s).bind fun a => prun P (f a) := by
  intro s f
  show prun P (Sem.bind s f) = _
  induction s with
  | pure a => rfl
  | program k ih => exact ih P
  | _ => rfl
theorem prun_pure {α : Type} {P : Program} (a : α) : prun P (pure a : Sem α) = some a := rfl
theorem run_value {P : Program} {s : Sem Value} {r : Value} (h : prun P s = some r) (w : World) : (do pure (Next.value (← s)) : Sem Next).run P w = .ok (.value r) w := by
  simp [prun_run h w]
theorem run_value' {P : Program} {s : Sem Value} {r : Value} {w : World} (h : s.run P w = .ok r w) : (do pure (Next.value (← s)) : Sem Next).run P w = .ok (.value r) w := by
  simp [h]
theorem run_value'' {P : Program} {s : Sem Value} {r : Value} {w w' : World} (h : s.run P w = .ok r w') : (do pure (Next.value (← s)) : Sem Next).run P w = .ok (.value r) w' := by
  simp [h]
theorem prun_underlying {P : Program} {t : TypeId} {d : TypeDesc} (h : P.underlying t = some d) : prun P (underlying t) = some d := by
  unfold underlying
  rw [prun_bind]
  show prun P (match P.underlying t with | some d => pure d | none => stuck "no such type") = some d
  rw [h]
  rfl
theorem underlying_of {P : Program} {t : TypeId} {d : TypeDesc} (h : prun P (underlying t) = some d) : P.underlying t = some d := by
  unfold underlying at h
  rw [prun_bind] at h
  have h' : prun P (match P.underlying t with | some d => pure d | none => stuck "no such type") = some d := h
  cases hu : P.underlying t with
  | none => rw [hu] at h'; simp [stuck, prun] at h'
  | some d' => rw [hu] at h'; simpa [prun_pure] using h'
theorem add_add (ad : Addr) (m k : Nat) : (ad.add m).add k = ad.add (m + k) := by
  unfold Addr.add
  by_cases hm : m = 0
  · subst hm
    simp
  · by_cases hk : k = 0
    · subst hk
      simp
    · rw [if_neg hk, if_neg hm, if_neg (by omega)]
      simp only [Addr.mk.injEq, true_and, and_true]
      omega
theorem load_run {P : Program} {w : World} {ad : Addr} {u : Value} (h : w.cell? ad = some u) : (load ad).run P w = .ok u w := by
  unfold load
  simp only [Sem.run, h]
theorem loadCellsFrom_run {P : Program} {w : World} {ad : Addr} : ∀ (vs : List Value) (j : Nat) (acc : Array Value), (∀ i u, vs[i]? = some u → w.cell? (ad.add (j + i)) = some u) →
    (loadCellsFrom ad j vs.length acc).run P w = .ok (acc ++ vs.toArray) w
  | [], j, acc, h => by simp [loadCellsFrom]
  | v :: r, j, acc, h => by
    have h0 := h 0 v rfl
    have ih := loadCellsFrom_run (P := P) r (j + 1) (acc.push v) (fun i u hu => by have := h (i + 1) u (by simpa using hu); rwa [show j + 1 + i = j + (i + 1) by omega])
    simp only [List.length_cons, loadCellsFrom, Sem.run_bind]
    have hl : (load (ad.add j)).run P w = .ok v w := load_run h0
    rw [hl]
    simp only [Result.andThen_ok]
    rw [ih]
    simp
theorem ldN_out {M : Mem} {ad : Addr} : ∀ (m j : Nat) (K : List Value → Prop), ldN M ad j m K → ∃ vs, vs.length = m ∧ (∀ i u, vs[i]? = some u → M (ad.add (j + i)) = some u) ∧ K vs
  | 0, j, K, h => ⟨[], rfl, fun i u hu => by simp at hu, h⟩
  | m + 1, j, K, h => by
    obtain ⟨v, hv, h2⟩ := h
    obtain ⟨vs, hl, hc, hK⟩ := ldN_out m (j + 1) _ h2
    skip
    refine ⟨v :: vs, by simp [hl], fun i u hu => ?_, hK⟩
    cases i with
    | zero => simp at hu; subst hu; exact hv
    | succ i => have := hc i u (by simpa using hu); rwa [show j + (i + 1) = j + 1 + i by omega]
theorem aggSize_none {P : Program} {t : TypeId} (h : prun P (aggSize t) = some none) : prun P (isAgg t) = some false := by
  unfold aggSize at h
  rw [prun_bind] at h
  cases hi : prun P (isAgg t) with
  | none => rw [hi] at h; simp at h
  | some c =>
    rw [hi] at h
    cases c with
    | false => rfl
    | true =>
      simp only [Option.bind_some, if_true, prun_bind] at h
      cases hs : prun P (sizeOf t) with
      | none => rw [hs] at h; simp at h
      | some m => rw [hs] at h; simp [prun_pure] at h
theorem aggSize_some {P : Program} {t : TypeId} {m : Nat} (h : prun P (aggSize t) = some (some m)) : prun P (isAgg t) = some true ∧ prun P (sizeOf t) = some m := by
  unfold aggSize at h
  rw [prun_bind] at h
  cases hi : prun P (isAgg t) with
  | none => rw [hi] at h; simp at h
  | some c =>
    rw [hi] at h
    cases c with
    | false => simp [prun_pure] at h
    | true =>
      simp only [Option.bind_some, if_true, prun_bind] at h
      cases hs : prun P (sizeOf t) with
      | none => rw [hs] at h; simp at h
      | some m' => rw [hs] at h; simp [prun_pure] at h; subst h; exact ⟨rfl, rfl⟩
theorem loadVar_one {P : Program} {t : TypeId} {w : World} {ad : Addr} {u : Value} (h : prun P (aggSize t) = some none) (hc : w.cell? ad = some u) : (loadVar t ad).run P w = .ok u w := by
  unfold loadVar
  simp only [Sem.run_bind, prun_run (aggSize_none h) w, Result.andThen_ok, Bool.false_eq_true, if_false]
  exact load_run hc
theorem loadVar_agg {P : Program} {t : TypeId} {w : World} {ad : Addr} {vs : List Value} (h : prun P (aggSize t) = some (some vs.length)) (hc : ∀ i u, vs[i]? = some u → w.cell? (ad.add i) = some u) : (loadVar t ad).run P w = .ok (.agg vs.toArray) w := by
  obtain ⟨h1, h2⟩ := aggSize_some h
  unfold loadVar
  simp only [Sem.run_bind, prun_run h1 w, Result.andThen_ok, if_true, prun_run h2 w]
  have := loadCellsFrom_run (P := P) (w := w) (ad := ad) vs 0 #[] (fun i u hu => by rw [Nat.zero_add]; exact hc i u hu)
  unfold loadCells
  rw [this]
  simp
theorem fieldAt_run {P : Program} {s f off : Nat} {ad : Addr} (h : prun P (fieldOff s f) = some off) : prun P (Instr.fieldAt s (.pointer (some ad)) f) = some (.pointer (some (ad.add off))) := by
  unfold fieldOff at h
  unfold Instr.fieldAt
  rw [prun_bind] at h ⊢
  cases hu : prun P (underlying s) with
  | none => rw [hu] at h; simp at h
  | some d =>
    rw [hu] at h
    simp only [Option.bind_some] at h ⊢
    cases d <;> first | (simp [stuck, prun] at h; done) | skip
    rename_i fields
    simp only at h ⊢
    cases hf : fields[f]? with
    | none => rw [hf] at h; simp [stuck, prun] at h
    | some g =>
      rw [hf] at h
      simp only [Instr.sureAddr, fieldPlace, prun_bind, prun_pure, Option.bind_some] at h ⊢
      cases hs : prun P (sizeOf g.type) with
      | none => rw [hs] at h; simp at h
      | some z =>
        rw [hs] at h
        simp only [Option.bind_some] at h ⊢
        by_cases hz : z = 0
        · rw [if_pos hz] at h; simp [stuck, prun] at h
        · rw [if_neg hz] at h ⊢
          simp only [prun_pure, Option.some.injEq] at h
          subst h
          rfl
theorem indexAt_run {P : Program} {t z len cap : Nat} {ad : Addr} {k : IntKind} {i : Int} (h : prun P (elemSize t) = some z) (h0 : 0 ≤ i) (h1 : i < (len : Int)) :
    prun P (Instr.indexAt t (.slice (some ad) len cap) (.int k i)) = some (.pointer (some (ad.add (i.toNat * z)))) := by
  unfold elemSize at h
  unfold Instr.indexAt
  rw [prun_bind] at h
  simp only [asIntOf, prun_bind, prun_pure, Option.bind_some]
  cases hu : prun P (underlying t) with
  | none => rw [hu] at h; simp at h
  | some d =>
    rw [hu] at h
    simp only [Option.bind_some] at h ⊢
    cases d <;> first | (simp [stuck, prun] at h; done) | skip
    rename_i elem
    simp only [prun_pure, Option.bind_some, prun_bind, hu] at h ⊢
    rw [if_pos ⟨h0, h1⟩]
    simp only [prun_bind, h, Option.bind_some, prun_pure]
theorem sliceBound_run {P : Program} {k : IntKind} {i : Int} {n y : Nat} {code : BoundsCode} (h : i = (n : Int)) (hn : n ≤ y) : prun P (Instr.sliceBound (.int k i) y code) = some n := by
  subst h
  unfold Instr.sliceBound
  simp only [asIntOf, prun_bind, prun_pure, Option.bind_some]
  rw [if_pos (by omega)]
  simp [prun_pure]
theorem sliceBounds_run {P : Program} {b : Bool} {len cap l h : Nat} {lo hi : Option Value} (hlo : (lo = none ∧ l = 0) ∨ ∃ k i, lo = some (.int k i) ∧ i = (l : Int)) (hhi : (hi = none ∧ h = len) ∨ ∃ k i, hi = some (.int k i) ∧ i = (h : Int)) (h1 : l ≤ h) (h2 : h ≤ cap) :
    prun P (Instr.sliceBounds b len cap lo hi none) = some (l, h, cap) := by
  unfold Instr.sliceBounds
  rcases hhi with ⟨rfl, rfl⟩ | ⟨k, i, rfl, hi⟩
  · rcases hlo with ⟨rfl, rfl⟩ | ⟨k', i', rfl, hi'⟩
    · rfl
    · simp only [prun_bind, prun_pure, Option.bind_some, sliceBound_run hi' h1]
  · rcases hlo with ⟨rfl, rfl⟩ | ⟨k', i', rfl, hi'⟩
    · simp only [prun_bind, prun_pure, Option.bind_some, sliceBound_run hi h2]
    · simp only [prun_bind, prun_pure, Option.bind_some, sliceBound_run hi h2, sliceBound_run hi' h1]
theorem slice_run {P : Program} {t z len cap l h : Nat} {base : Option Addr} {lo hi : Option Value} (hz : prun P (elemSize t) = some z) (hlo : (lo = none ∧ l = 0) ∨ ∃ k i, lo = some (.int k i) ∧ i = (l : Int)) (hhi : (hi = none ∧ h = len) ∨ ∃ k i, hi = some (.int k i) ∧ i = (h : Int)) (h1 : l ≤ h) (h2 : h ≤ cap) :
    prun P (Instr.sliceAt t (.slice base len cap) lo hi none) = some (.slice (if cap = l then base else base.map (·.add (l * z))) (h - l) (cap - l)) := by
  unfold elemSize at hz
  unfold Instr.sliceAt
  rw [prun_bind] at hz ⊢
  cases hu : prun P (underlying t) with
  | none => rw [hu] at hz; simp at hz
  | some d =>
    rw [hu] at hz
    simp only [Option.bind_some] at hz ⊢
    cases d <;> first | (simp [stuck, prun] at hz; done) | skip
    rename_i elem
    simp only at hz ⊢
    unfold Instr.slice
    simp only [prun_bind, hu, Option.bind_some, sliceBounds_run (P := P) (b := true) hlo hhi h1 h2, hz, prun_pure]
theorem slice3_run {P : Program} {t z len cap l h m : Nat} {base : Option Addr} {lo : Option Value} {k k' : IntKind} {i i' : Int} (hz : prun P (elemSize t) = some z) (hlo : (lo = none ∧ l = 0) ∨ ∃ k i, lo = some (.int k i) ∧ i = (l : Int)) (hhi : i = (h : Int)) (hm : i' = (m : Int)) (h1 : l ≤ h) (h2 : h ≤ m) (h3 : m ≤ cap) :
    prun P (Instr.sliceAt t (.slice base len cap) lo (some (.int k i)) (some (.int k' i'))) = some (.slice (if m = l then base else base.map (·.add (l * z))) (h - l) (m - l)) := by
  unfold elemSize at hz
  unfold Instr.sliceAt
  rw [prun_bind] at hz ⊢
  cases hu : prun P (underlying t) with
  | none => rw [hu] at hz; simp at hz
  | some d =>
    rw [hu] at hz
    simp only [Option.bind_some] at hz ⊢
    cases d <;> first | (simp [stuck, prun] at hz; done) | skip
    rename_i elem
    simp only at hz ⊢
    unfold Instr.slice Instr.sliceBounds
    rcases hlo with ⟨rfl, rfl⟩ | ⟨k2, i2, rfl, hi2⟩
    · simp only [prun_bind, hu, Option.bind_some, sliceBound_run hm h3, sliceBound_run hhi h2, hz, prun_pure]
    · simp only [prun_bind, hu, Option.bind_some, sliceBound_run hm h3, sliceBound_run hhi h2, sliceBound_run hi2 h1, hz, prun_pure]
theorem sliceS_run {P : Program} {t l h : Nat} {s : ByteArray} {lo hi : Option Value} (hz : prun P (isStr t) = some ()) (hlo : (lo = none ∧ l = 0) ∨ ∃ k i, lo = some (.int k i) ∧ i = (l : Int)) (hhi : (hi = none ∧ h = s.size) ∨ ∃ k i, hi = some (.int k i) ∧ i = (h : Int)) (h1 : l ≤ h) (h2 : h ≤ s.size) :
    prun P (Instr.sliceAt t (.string s) lo hi none) = some (.string (s.extract l h)) := by
  unfold isStr at hz
  unfold Instr.sliceAt
  rw [prun_bind] at hz ⊢
  cases hu : prun P (underlying t) with
  | none => rw [hu] at hz; simp at hz
  | some d =>
    rw [hu] at hz
    simp only [Option.bind_some] at hz ⊢
    cases d <;> first | (simp [stuck, prun] at hz; done) | skip
    simp only
    unfold Instr.slice
    simp only [prun_bind, hu, Option.bind_some]
    rw [if_neg (by simp)]
    simp only [prun_bind, sliceBounds_run (P := P) (b := false) hlo hhi h1 h2, Option.bind_some, prun_pure]
theorem index_run {P : Program} {t : Nat} {s : ByteArray} {k : IntKind} {i : Int} (h : prun P (isStr t) = some ()) (h0 : 0 ≤ i) (h1 : i < (s.size : Int)) :
    prun P (Instr.index t (.string s) (.int k i)) = some (.int .u8 ((s.data.getD i.toNat 0).toNat : Int)) := by
  unfold isStr at h
  unfold Instr.index
  rw [prun_bind] at h
  simp only [asIntOf, prun_bind, prun_pure, Option.bind_some]
  cases hu : prun P (underlying t) with
  | none => rw [hu] at h; simp at h
  | some d =>
    rw [hu] at h
    simp only [Option.bind_some] at h ⊢
    cases d <;> first | (simp [stuck, prun] at h; done) | skip
    simp only
    rw [if_pos h0]
    have hi : i.toNat < s.size := by omega
    rw [getElem?_pos s i.toNat hi]
    have hd : s.data.getD i.toNat 0 = s[i.toNat] := by
      simp only [Array.getD_eq_getD_getElem?]
      rw [Array.getElem?_eq_getElem (by exact hi)]
      rfl
    rw [hd]
    rfl

theorem partV_run {P : Program} {t : TypeId} {cs : Array Value} {off : Nat} {r : Value} (h : partV P t cs off = some r) (w : World) : (part t cs off).run P w = .ok r w := by
  unfold partV at h
  unfold part
  split at h
  · rename_i hs
    simp only [Sem.run_bind, prun_run (aggSize_none hs) w, Result.andThen_ok, Bool.false_eq_true, if_false]
    rw [Array.getElem?_toList] at h
    rw [h]
    rfl
  · rename_i m hs
    obtain ⟨h1, h2⟩ := aggSize_some hs
    simp only [Option.some.injEq] at h
    subst h
    simp only [Sem.run_bind, prun_run h1 w, Result.andThen_ok, if_true, prun_run h2 w, Sem.run_pure]
    congr 2
    apply Array.toList_inj.mp
    simp [List.extract]
  · simp at h
theorem fill_set (vs : List Value) : ∀ (cs : List Value) (off j : Nat), (vs.zipIdx j).foldl (fun (cs : Array Value) (x : Value × Nat) => cs.setIfInBounds (off + x.2) x.1) cs.toArray = (setAt cs (off + j) vs).toArray := by
  induction vs with
  | nil => intro cs off j; rfl
  | cons v r ih =>
    intro cs off j
    simp only [List.zipIdx_cons, List.foldl_cons, setAt]
    have := ih (cs.set (off + j) v) off (j + 1)
    rw [← Nat.add_assoc] at this
    rw [← this]
    simp
theorem setAt_length : ∀ (vs cs : List Value) (q : Nat), (setAt cs q vs).length = cs.length
  | [], cs, q => rfl
  | v :: r, cs, q => by simp [setAt, setAt_length r]
theorem pfill_run {pl : List (Nat × Nat)} {place : Nat → Option (Nat × Nat)} (hp : ∀ i, place i = pl[i]?) : ∀ (parts : List (Nat × Value)) (cs r : List Value), pfill pl cs parts = some r → Instr.fill place cs.toArray parts = some r.toArray
  | [], cs, r, h => by simp only [pfill, Option.some.injEq] at h; subst h; rfl
  | (i, v) :: rest, cs, r, h => by
    simp only [pfill] at h
    simp only [Instr.fill, hp]
    split at h
    · rename_i off z hpl
      cases hc : (Nat.beq v.cells.size z && Nat.ble (off + v.cells.size) cs.length) with
      | false => rw [hc] at h; simp at h
      | true =>
        rw [hc] at h
        simp only [Bool.and_eq_true] at hc
        have h1 : v.cells.size = z := Nat.eq_of_beq_eq_true hc.1
        have h2 : off + v.cells.size ≤ cs.length := Nat.le_of_ble_eq_true hc.2
        simp only [cond_true] at h
        rw [hpl]
        simp only
        rw [if_neg (by simp [h1]; omega)]
        rw [splice_eq] at h
        have hf := fill_set v.cells.toList cs off 0
        rw [Nat.add_zero] at hf
        have hz : Array.foldl (fun (cs : Array Value) (x : Value × Nat) => cs.setIfInBounds (off + x.2) x.1) cs.toArray v.cells.zipIdx = (setAt cs off v.cells.toList).toArray := by
          rw [← hf, ← Array.foldl_toList, Array.toList_zipIdx]
        refine Eq.trans (congrArg (fun q => Instr.fill place q rest) hz) ?_
        exact pfill_run hp rest _ _ h
    · simp at h
theorem pfillS_run {z : Nat} : ∀ (parts : List (Nat × Value)) (cs r : List Value), pfillS z cs parts = some r → Instr.fill (fun i => some (i * z, z)) cs.toArray parts = some r.toArray ∧ r.length = cs.length
  | [], cs, r, h => by simp only [pfillS, Option.some.injEq] at h; subst h; exact ⟨rfl, rfl⟩
  | (i, v) :: rest, cs, r, h => by
    simp only [pfillS] at h
    simp only [Instr.fill]
    cases hc : (Nat.beq v.cells.size z && Nat.ble (i * z + v.cells.size) cs.length) with
    | false => rw [hc] at h; simp at h
    | true =>
      rw [hc] at h
      simp only [Bool.and_eq_true] at hc
      have h1 : v.cells.size = z := Nat.eq_of_beq_eq_true hc.1
      have h2 : i * z + v.cells.size ≤ cs.length := Nat.le_of_ble_eq_true hc.2
      simp only [cond_true] at h
      rw [if_neg (by simp [h1]; omega)]
      rw [splice_eq] at h
      have hf := fill_set v.cells.toList cs (i * z) 0
      rw [Nat.add_zero] at hf
      have hz : Array.foldl (fun (cs : Array Value) (x : Value × Nat) => cs.setIfInBounds (i * z + x.2) x.1) cs.toArray v.cells.zipIdx = (setAt cs (i * z) v.cells.toList).toArray := by
        rw [← hf, ← Array.foldl_toList, Array.toList_zipIdx]
      obtain ⟨q1, q2⟩ := pfillS_run rest _ _ h
      exact ⟨Eq.trans (congrArg (fun q => Instr.fill (fun i => some (i * z, z)) q rest) hz) q1, by rw [q2, setAt_length]⟩
theorem places_run {P : Program} : ∀ (fs : List Field) (l : List (Nat × Nat)), places P fs = some l → ∀ w, (fs.mapM fun f => do pure (f.offset, ← sizeOf f.type) : Sem (List (Nat × Nat))).run P w = .ok l w
  | [], l, h, w => by simp only [places, Option.some.injEq] at h; subst h; rfl
  | f :: r, l, h, w => by
    simp only [places] at h
    split at h
    · rename_i z l' h1 h2
      simp only [Option.some.injEq] at h
      subst h
      rw [List.mapM_cons, Sem.run_bind]
      simp only [Sem.run_bind, prun_run h1 w, Result.andThen_ok, Sem.run_pure, places_run r l' h2 w]
    · simp at h
theorem pbuild_run {P : Program} {t : TypeId} {parts : List (Nat × Value)} {r : Value} (h : pbuild P t parts = some r) (w : World) : (Instr.build t parts.toArray).run P w = .ok r w := by
  unfold pbuild at h
  split at h
  · rename_i z fields hz hu
    split at h
    · rename_i pl hpl
      split at h
      · rename_i cs hcs
        simp only [Option.some.injEq] at h
        subst h
        unfold Instr.build
        have hm : (fields.mapM fun f => do pure (f.offset, ← sizeOf f.type) : Sem (Array (Nat × Nat))).run P w = .ok pl.toArray w := by
          rw [Array.mapM_eq_mapM_toList, map_eq_pure_bind, Sem.run_bind, places_run _ _ hpl w]
          rfl
        simp only [Sem.run_bind, prun_run hz w, prun_run hu w, Result.andThen_ok, hm]
        rw [show z.cells = z.cells.toList.toArray by simp, pfill_run (pl := pl) (fun i => by simp) parts z.cells.toList cs hcs]
        rfl
      · simp at h
    · simp at h
  · simp at h
theorem eqFs_run {P : Program} {d : Nat} {f1 : TypeId → Value → Value → Option Bool} (h1 : ∀ t x y r, f1 t x y = some r → ∀ w, (Op.equalIn d t x y).run P w = .ok r w) {xs ys : Array Value} :
    ∀ {fs : List Field} {r : Bool}, (∀ f ∈ fs, f.name ≠ "_") → eqFs P f1 xs ys fs = some r → ∀ w, (Op.eqFields d xs ys fs).run P w = .ok r w
  | [], r, hn, h, w => by simp only [eqFs, Option.some.injEq] at h; subst h; rfl
  | f :: fs, r, hn, h, w => by
    simp only [eqFs] at h
    simp only [Op.eqFields]
    rw [if_pos (hn f (List.mem_cons_self ..))]
    cases ha : partV P f.type xs f.offset with
    | none => rw [ha] at h; simp at h
    | some a =>
      cases hb : partV P f.type ys f.offset with
      | none => rw [ha, hb] at h; simp at h
      | some b =>
        rw [ha, hb] at h
        simp only at h
        cases hr1 : f1 f.type a b with
        | none => rw [hr1] at h; simp at h
        | some r1 =>
          cases hr2 : eqFs P f1 xs ys fs with
          | none => rw [hr1, hr2] at h; simp at h
          | some r2 =>
            rw [hr1, hr2] at h
            simp only [Option.some.injEq] at h
            subst h
            simp only [Sem.run_bind, partV_run ha w, partV_run hb w, h1 _ _ _ _ hr1 w, Result.andThen_ok]
            cases r1 with
            | false => rfl
            | true => simpa using eqFs_run h1 (fun f hf => hn f (List.mem_cons_of_mem _ hf)) hr2 w
theorem eqT_run {P : Program} {ok : TypeId → Bool} (hok : ∀ t, ok t = true → P.stoodInHeld t = false ∧ ∀ f ∈ (P.fieldsOf t).toList, f.name ≠ "_") : ∀ (d : Nat) (t : TypeId) (x y : Value) (r : Bool), eqT P ok d t x y = some r → ∀ w, (Op.equalIn d t x y).run P w = .ok r w
  | 0, t, x, y, r, h, w => by simp [eqT] at h
  | d + 1, t, x, y, r, h, w => by
    simp only [eqT] at h
    split at h
    · rename_i a b hu
      simp only [Option.some.injEq] at h; subst h
      exact run_equalIn_bool w d t a b hu
    · rename_i k k' a k'' b hu
      split at h
      · rename_i hk
        subst hk
        simp only [Option.some.injEq] at h; subst h
        exact run_equalIn_int w d t _ _ a b hu
      · simp at h
    · rename_i a b hu
      simp only [Option.some.injEq] at h; subst h
      exact run_equalIn_string w d t a b hu
    · rename_i fs xs ys hu
      cases ho : ok t with
      | false => rw [ho] at h; simp at h
      | true =>
        rw [ho] at h
        simp only [cond_true] at h
        have hf : P.fieldsOf t = fs := by simp [Program.fieldsOf, hu]
        rw [run_equalIn_struct w d t xs ys (by rw [hf]; exact hu) (hok t ho).1, hf]
        exact eqFs_run (fun t x y r h w => eqT_run hok d t x y r h w) (by rw [← hf]; exact (hok t ho).2) h w
    · simp at h
theorem eqT_ok {P : Program} {ok : TypeId → Bool} {d : Nat} {t : TypeId} {xs ys : Array Value} {r : Bool} (h : eqT P ok d t (.agg xs) (.agg ys) = some r) : ok t = true := by
  cases d with
  | zero => simp [eqT] at h
  | succ d =>
    simp only [eqT] at h
    split at h <;> rename_i hu <;> first | (cases hu; done) | skip
    all_goals first | (simp at h; done) | skip
    cases ho : ok t with
    | true => rfl
    | false => rw [ho] at h; simp at h
theorem pbin_run {P : Program} {T : Tab P} {op : BinOp} {t : TypeId} {x y : Operand} {a c r : Value} (h : pbin P T op t x y a c = some r) (w : World) :
    (do pure (Next.value (← (do eqGuard op t x y a c; binOp op t a c))) : Sem Next).run P w = .ok (.value r) w := by
  apply run_value'
  unfold pbin at h
  split at h
  · rename_i xs ys
    cases he : eqT P T.ok 10000 t (.agg xs) (.agg ys) with
    | none => rw [he] at h; simp at h
    | some b =>
      rw [he] at h
      simp only [Option.map_some, Option.some.injEq] at h
      subst h
      have hk := T.okh t (eqT_ok he)
      simp only [Sem.run_bind, run_eqGuard_agg w _ t x y xs ys hk.2.1, Result.andThen_ok, run_eql_struct]
      rw [eqT_run (fun t h => ⟨(T.okh t h).1, (T.okh t h).2.2⟩) 10000 t _ _ b he w]
      rfl
  · rename_i xs ys
    cases he : eqT P T.ok 10000 t (.agg xs) (.agg ys) with
    | none => rw [he] at h; simp at h
    | some b =>
      rw [he] at h
      simp only [Option.map_some, Option.some.injEq] at h
      subst h
      have hk := T.okh t (eqT_ok he)
      simp only [Sem.run_bind, run_eqGuard_agg w _ t x y xs ys hk.2.1, Result.andThen_ok, run_neq_struct]
      rw [eqT_run (fun t h => ⟨(T.okh t h).1, (T.okh t h).2.2⟩) 10000 t _ _ b he w]
      rfl
  · exact prun_run h w
theorem fieldV_run {P : Program} {t f off ft : Nat} {cs : Array Value} {r : Value} (h : prun P (fieldOfT t f) = some (off, ft)) (hp : partV P ft cs off = some r) (w : World) : (Instr.field t (.agg cs) f).run P w = .ok r w := by
  unfold fieldOfT at h
  unfold Instr.field
  rw [prun_bind] at h
  cases hu : prun P (underlying t) with
  | none => rw [hu] at h; simp at h
  | some d =>
    rw [hu] at h
    simp only [Option.bind_some] at h
    simp only [Sem.run_bind, prun_run hu w, Result.andThen_ok]
    cases d <;> first | (simp [stuck, prun] at h; done) | skip
    rename_i fields
    simp only at h ⊢
    cases hf : fields[f]? with
    | none => rw [hf] at h; simp [stuck, prun] at h
    | some g =>
      rw [hf] at h
      simp only [prun_pure, Option.some.injEq, Prod.mk.injEq] at h
      obtain ⟨rfl, rfl⟩ := h
      simp only [asAgg, Sem.run_bind, Sem.run_pure, Result.andThen_ok]
      exact partV_run hp w
theorem len_base {P : Program} {ts : Array TypeId} {ty : TypeId} {n c : Nat} {r : Value} {ad : Option Addr} (h : prun P (Builtin.len_ ts ty #[.slice none n c]) = some r) : prun P (Builtin.len_ ts ty #[.slice ad n c]) = some r := by
  unfold Builtin.len_ at h ⊢
  cases ht : ts[0]? with
  | none => rw [ht] at h; simp [stuck, prun] at h
  | some t =>
    rw [ht] at h
    simp only [List.getElem?_toArray, List.getElem?_cons_zero, prun_bind] at h ⊢
    cases hu : prun P (underlying t) with
    | none => rw [hu] at h; simp at h
    | some d =>
      rw [hu] at h
      simp only [Option.bind_some] at h ⊢
      cases d <;> first | exact h | (simp [stuck, prun] at h; done) | skip
theorem callFunc_run {P : Program} {f : FuncId} (h : isGo P f = true) (args : Array Value) (w : World) : (callFunc f args).run P w = .ok (.enter f args) w := by
  unfold isGo at h
  cases hf : P.funcs[f]? with
  | none => rw [hf] at h; simp at h
  | some fn =>
    rw [hf] at h
    simp only [Bool.and_eq_true, Bool.not_eq_true', beq_eq_false_iff_ne, ne_eq] at h
    obtain ⟨h1, h2⟩ := h
    unfold callFunc
    simp only [Sem.run_bind, run_program, Result.andThen_ok, hf]
    rw [if_neg (by simpa using h2), if_neg (by cases hb : fn.body with | none => rw [hb] at h1; simp at h1 | some c => simp)]
    rfl
section
variable {P : Program} {T : Tab P} {M0 M : Mem} {w0 : Base} {N : Nat} {σ : Nat → Nat} {e : Env} {b : Bx} {n : Nat} {a : Act} {w : World}
theorem Rel.calleeC (h : Rel M0 w0 N σ e b n M a w) {x : Operand} {f : FuncId} {l : List Value} (hx : calleeC e x = some (f, l)) : a.eval x = .func (.func f) #[] l.toArray := by
  cases x with
  | func g => simp only [Lw.calleeC, Option.some.injEq, Prod.mk.injEq] at hx; obtain ⟨rfl, rfl⟩ := hx; rfl
  | tmp t =>
    simp only [Lw.calleeC] at hx
    split at hx
    · rename_i g u v hl
      split at hx
      · rename_i hu
        simp only [Option.some.injEq, Prod.mk.injEq] at hx
        obtain ⟨rfl, rfl⟩ := hx
        have h1 : u = #[] := Array.toList_inj.mp hu
        subst h1
        have := h.tmp t _ hl
        rw [Array.toArray_toList]
        exact this
      · simp at hx
    · simp at hx
  | _ => simp [Lw.calleeC] at hx
theorem Rel.callee (h : Rel M0 w0 N σ e b n M a w) {x : Operand} {f : FuncId} (hx : calleeF e x = some f) : a.eval x = .func (.func f) #[] #[] := by
  cases x with
  | func g => simp only [calleeF, Option.some.injEq] at hx; subst hx; rfl
  | tmp t =>
    simp only [calleeF] at hx
    split at hx
    · rename_i g u v hl
      split at hx
      · rename_i hu hv
        simp only [Option.some.injEq] at hx
        subst hx
        have h1 : u = #[] := Array.toList_inj.mp hu
        have h2 : v = #[] := Array.toList_inj.mp hv
        subst h1 h2
        exact h.tmp t _ hl
      · simp at hx
    · simp at hx
  | _ => simp [calleeF] at hx
theorem exec_call {ρ : Operand → Value} {dst : Option Tmp} {x : Operand} {args : Array Operand} {ats : Array TypeId} {type : TypeId} {pos : String} {after : Array Edge} {guard : Option (Nat × Bool)} {f : FuncId} (hx : ρ x = .func (.func f) #[] #[]) (P : Program) (w : World) :
    (execOp ρ { dst, op := .call { callee := .value x, args, argTypes := ats }, type, pos, after, guard }).run P w = (callFunc f (args.map ρ)).run P w := by
  simp only [execOp, resolve, hx, Deferred.ofValue, invoke, Sem.run_bind, Sem.run_pure, Result.andThen_ok]
  simp
theorem exec_callC {ρ : Operand → Value} {dst : Option Tmp} {x : Operand} {args : Array Operand} {ats : Array TypeId} {type : TypeId} {pos : String} {after : Array Edge} {guard : Option (Nat × Bool)} {f : FuncId} {c : Array Value} (hx : ρ x = .func (.func f) #[] c) (P : Program) (w : World) :
    (execOp ρ { dst, op := .call { callee := .value x, args, argTypes := ats }, type, pos, after, guard }).run P w = (callFunc f (args.map ρ ++ c)).run P w := by
  simp only [execOp, resolve, hx, Deferred.ofValue, invoke, Sem.run_bind, Sem.run_pure, Result.andThen_ok]
  simp
theorem quietAt_value {o : Oper} {C : World → Prop} {w' : World} {u : Value} (h : (execOp a.eval o).run P w' = .ok (.value u) w') : o.quietAt P a C w' u := by
  unfold Oper.quietAt
  rw [h]
  exact ⟨rfl, rfl⟩
theorem strTy_out {s d : TypeId} {u : Unit} (h : prun P (strTy s d) = some u) : ∃ e, P.underlying s = some (.slice e) ∧ P.underlying d = some .string ∧ P.underlying e = some (.int .u8) := by
  unfold strTy at h
  rw [prun_bind] at h
  cases hu : prun P (underlying s) with
  | none => rw [hu] at h; simp at h
  | some k =>
    rw [hu] at h
    simp only [Option.bind_some] at h
    cases k <;> first | (simp [stuck, prun] at h; done) | skip
    rename_i e
    simp only [prun_bind] at h
    cases hk : prun P (underlying d) with
    | none => rw [hk] at h; simp at h
    | some k =>
      rw [hk] at h
      simp only [Option.bind_some] at h
      cases k <;> first | (simp [stuck, prun] at h; done) | skip
      simp only [prun_bind] at h
      cases he : prun P (underlying e) with
      | none => rw [he] at h; simp at h
      | some k =>
        rw [he] at h
        simp only [Option.bind_some] at h
        split at h
        · rename_i h1
          exact ⟨e, underlying_of hu, underlying_of hk, underlying_of he⟩
        · simp [stuck, prun] at h
theorem mapTy_out {t : TypeId} {u : Unit} (h : prun P (mapTy t) = some u) : ∃ kt et, P.underlying t = some (.map kt et) ∧ P.underlying kt = some .string := by
  unfold mapTy at h
  rw [prun_bind] at h
  cases hu : prun P (underlying t) with
  | none => rw [hu] at h; simp at h
  | some d =>
    rw [hu] at h
    simp only [Option.bind_some] at h
    cases d <;> first | (simp [stuck, prun] at h; done) | skip
    rename_i kt et
    simp only [prun_bind] at h
    refine ⟨kt, et, underlying_of hu, ?_⟩
    cases hk : prun P (underlying kt) with
    | none => rw [hk] at h; simp at h
    | some d =>
      rw [hk] at h
      simp only [Option.bind_some] at h
      cases d <;> first | (simp [stuck, prun] at h; done) | skip
      exact underlying_of hk
theorem good_ev (h : Rel M0 w0 N σ e b n M a w) {x : Operand} {u : PV} (hx : ev e x = some u) : Good w0 σ b w u := by
  cases x with
  | tmp t => exact h.sl t u hx
  | const v => simp only [Lw.ev, Option.some.injEq] at hx; subst hx; trivial
  | global g => simp [Lw.ev] at hx
  | func f => simp only [Lw.ev, Option.some.injEq] at hx; subst hx; trivial
theorem mapAt_ev (h : Rel M0 w0 N σ e b n M a w) {x : Operand} {i : Nat} {l : MapD} (hx : ev e x = some (.m i l)) : MapAt w (σ i) l := (good_ev h hx).2
theorem qop_soundB {S : World → Prop} {o : Oper} {K : PV → Prop} (h : Rel M0 w0 N σ e b n M a w) (hS : ∀ w', S w' → Rel M0 w0 N σ e b n M a w') (hSc : ∀ w' w'', S w' → Below w'.heap.size w' w'' → S w'') (hq : qop P T M o e b K) :
    ∃ u, K u ∧ ((∀ i, idOf u = some i → i < n) ∧ Good w0 σ b w u) ∧ ∀ w', S w' → o.quietAt P a (fun w'' => S w'' ∧ Below w'.heap.size w' w'') w' (conc σ u) := by
  obtain ⟨dst, op, type, pos, after, guard⟩ := o
  have hlt0 : ∀ {x : Operand} {u : PV}, ev e x = some u → ∀ i, idOf u = some i → i < n := by
    intro x u hx i hu
    cases x with
    | tmp t => exact h.elt t u hx i hu
    | const v => simp only [ev, Option.some.injEq] at hx; subst hx; simp [idOf] at hu
    | global g => simp [ev] at hx
    | func f => simp only [ev, Option.some.injEq] at hx; subst hx; simp [idOf] at hu
  have hlt : ∀ {x : Operand} {u : PV}, ev e x = some u → (∀ i, idOf u = some i → i < n) ∧ Good w0 σ b w u := by
    intro x u hx
    refine ⟨hlt0 hx, ?_⟩
    cases x with
    | tmp t => exact h.sl t u hx
    | const v => simp only [ev, Option.some.injEq] at hx; subst hx; trivial
    | global g => simp [ev] at hx
    | func f => simp only [ev, Option.some.injEq] at hx; subst hx; trivial
  have hv : ∀ {x : Value}, (∀ i, idOf (PV.v x) = some i → i < n) ∧ Good w0 σ b w (.v x) := by intro x; exact ⟨fun i hx => by (cases hx), trivial⟩
  cases op with
  | move x =>
    simp only [qop] at hq
    split at hq
    · rename_i u hx
      exact ⟨u, hq, hlt hx, fun w' hb => quietAt_value (by show _ = Result.ok (Next.value (conc σ u)) w'; rw [← h.ev hx]; rfl)⟩
    · exact hq.elim
  | assign x =>
    simp only [qop] at hq
    split at hq
    · rename_i u hx
      exact ⟨u, hq, hlt hx, fun w' hb => quietAt_value (by show _ = Result.ok (Next.value (conc σ u)) w'; rw [← h.ev hx]; rfl)⟩
    · exact hq.elim
  | pick c x y =>
    simp only [qop] at hq
    split at hq
    · rename_i t u u' hc hx hy
      cases t with
      | true =>
        refine ⟨_, hq.yes rfl, hv, fun w' hb => quietAt_value ?_⟩
        show (do pure (Next.value (if ← asBool (a.eval c) then a.eval x else a.eval y)) : Sem Next).run P w' = _
        rw [h.evV hc, h.evV hx, h.evV hy]
        rfl
      | false =>
        refine ⟨_, hq.no rfl, hv, fun w' hb => quietAt_value ?_⟩
        show (do pure (Next.value (if ← asBool (a.eval c) then a.eval x else a.eval y)) : Sem Next).run P w' = _
        rw [h.evV hc, h.evV hx, h.evV hy]
        rfl
    · exact hq.elim
  | binOp op t x y ty =>
    simp only [qop] at hq
    split at hq
    · rename_i a1 a2 hx hy
      unfold catOr at hq
      split at hq
      · rename_i s1 s2
        refine ⟨_, hq.k, hv, fun w' hb => quietAt_value ?_⟩
        have hle := hq.h
        show (do pure (Next.value (← (do eqGuard .add t x y (a.eval x) (a.eval y); binOp .add t (a.eval x) (a.eval y)))) : Sem Next).run P w' = _
        rw [h.evV hx, h.evV hy]
        have hnot : ¬ (((s1.size + s2.size : Nat) : Int) > IntKind.i64.max) := by
          show ¬ (((s1.size + s2.size : Nat) : Int) > 9223372036854775807)
          omega
        have hg : (eqGuard BinOp.add t x y (.string s1) (.string s2)).run P w' = .ok () w' := rfl
        have hb' : (binOp BinOp.add t (.string s1) (.string s2)).run P w' = .ok (.string (s1 ++ s2)) w' := by
          show (Op.stringOp .add s1 s2).run P w' = _
          unfold Op.stringOp
          simp only [if_neg hnot]
          rfl
        simp only [Sem.run_bind, hg, hb', Result.andThen_ok]
        rfl
      · rename_i k1 x1 k2 n1
        cases hk : decide (k1 = k2) with
        | false => rw [hk] at hq; exact hq.elim
        | true =>
          rw [hk] at hq
          obtain ⟨hn, hq⟩ := hq
          have hk := of_decide_eq_true hk
          subst hk
          refine ⟨_, hq, hv, fun w' hb => quietAt_value ?_⟩
          show (do pure (Next.value (← (do eqGuard .rem t x y (a.eval x) (a.eval y); binOp .rem t (a.eval x) (a.eval y)))) : Sem Next).run P w' = _
          rw [h.evV hx, h.evV hy]
          have hg : (eqGuard BinOp.rem t x y (.int k1 x1) (.int k1 n1)).run P w' = .ok () w' := rfl
          have hb' : (binOp BinOp.rem t (.int k1 x1) (.int k1 n1)).run P w' = .ok (.int k1 (x1.tmod n1)) w' := by
            have hh : binOp BinOp.rem t (.int k1 x1) (.int k1 n1) = (if k1 ≠ k1 then stuck "BinOp: operands of different kinds" else Op.intDiv .rem k1 x1 n1) := rfl
            rw [hh, if_neg (by simp)]
            unfold Op.intDiv
            rw [if_neg hn]
            rfl
          simp only [Sem.run_bind, hg, hb', Result.andThen_ok]
          rfl
      · rename_i k1 x1 k2 n1
        cases hk : decide (k1 = k2) with
        | false => rw [hk] at hq; exact hq.elim
        | true =>
          rw [hk] at hq
          obtain ⟨hn, hq⟩ := hq
          have hk := of_decide_eq_true hk
          subst hk
          refine ⟨_, hq, hv, fun w' hb => quietAt_value ?_⟩
          show (do pure (Next.value (← (do eqGuard .quo t x y (a.eval x) (a.eval y); binOp .quo t (a.eval x) (a.eval y)))) : Sem Next).run P w' = _
          rw [h.evV hx, h.evV hy]
          have hg : (eqGuard BinOp.quo t x y (.int k1 x1) (.int k1 n1)).run P w' = .ok () w' := rfl
          have hb' : (binOp BinOp.quo t (.int k1 x1) (.int k1 n1)).run P w' = .ok (.int k1 (k1.wrap (x1.tdiv n1))) w' := by
            have hh : binOp BinOp.quo t (.int k1 x1) (.int k1 n1) = (if k1 ≠ k1 then stuck "BinOp: operands of different kinds" else Op.intDiv .quo k1 x1 n1) := rfl
            rw [hh, if_neg (by simp)]
            unfold Op.intDiv
            rw [if_neg hn]
            rfl
          simp only [Sem.run_bind, hg, hb', Result.andThen_ok]
          rfl
      · split at hq
        · rename_i r hr
          refine ⟨_, hq, hv, fun w' hb => quietAt_value ?_⟩
          show (do pure (Next.value (← (do eqGuard op t x y (a.eval x) (a.eval y); binOp op t (a.eval x) (a.eval y)))) : Sem Next).run P w' = _
          rw [h.evV hx, h.evV hy]
          exact pbin_run hr w'
        · exact hq.elim
    · exact hq.elim
  | unOp op t x =>
    simp only [qop] at hq
    split at hq
    · rename_i a1 hx
      split at hq
      · rename_i r hr
        refine ⟨_, hq, hv, fun w' hb => quietAt_value ?_⟩
        show (do pure (Next.value (← Op.unary op (a.eval x))) : Sem Next).run P w' = _
        rw [h.evV hx]
        exact run_value hr w'
      · exact hq.elim
    · exact hq.elim
  | convert s d x =>
    simp only [qop] at hq
    split at hq
    · rename_i a1 hx
      split at hq
      · rename_i r hr
        refine ⟨_, hq, hv, fun w' hb => quietAt_value ?_⟩
        show (do pure (Next.value (← convert s d (a.eval x))) : Sem Next).run P w' = _
        rw [h.evV hx]
        exact run_value hr w'
      · exact hq.elim
    · split at hq
      · rename_i i len cap z hx
        split at hq
        · rename_i cs u hi hm
          · cases hc : Nat.beq z 1 with
            | false => rw [hc] at hq; exact hq.elim
            | true =>
              rw [hc] at hq
              obtain ⟨ns, hns, hq⟩ := hq
              have hz := Nat.eq_of_beq_eq_true hc
              subst hz
              refine ⟨_, hq, hv, fun w' hb => quietAt_value ?_⟩
              show (do pure (Next.value (← convert s d (a.eval x))) : Sem Next).run P w' = _
              have hg : Good w0 σ b w' (.s i len cap 1) := good_ev (hS w' hb) hx
              obtain ⟨h1, h2, h3, h4⟩ := strTy_out hm |>.choose_spec |> fun ⟨p, q, r⟩ => (⟨p, q, r, trivial⟩ : _ ∧ _ ∧ _ ∧ True)
              have hlen := (hg cs hi).1
              rw [Nat.mul_one] at hlen
              rw [h.ev hx]
              simp only [conc]
              refine run_value'' ?_
              rw [run_convert_bytes_string w' s d _ _ len cap h1 h3 h2]
              have hcs := bytesL_out hns
              refine run_bytesToString w' _ len cap ns ?_
              have := run_loadCells_list (P := P) (w := w') ⟨σ i, 0, none⟩ cs (fun j v hj => by
                have := (hS w' hb).cellB hi hj
                unfold Addr.add
                split
                · rename_i h0; subst h0; exact this
                · simpa using this)
              rw [hlen] at this
              rw [this, hcs]
        · exact hq.elim
      · exact hq.elim
  | field t x f =>
    simp only [qop] at hq
    split at hq
    · rename_i cs hx
      split at hq
      · rename_i off ft hr
        split at hq
        · rename_i r hp
          refine ⟨_, hq, hv, fun w' hb => quietAt_value ?_⟩
          show (do pure (Next.value (← Instr.field t (a.eval x) f)) : Sem Next).run P w' = _
          rw [h.evV hx]
          exact run_value' (fieldV_run hr hp w')
        · exact hq.elim
      · exact hq.elim
    · exact hq.elim
  | build t parts =>
    simp only [qop] at hq
    split at hq
    · rename_i l hl
      split at hq
      · rename_i cs hr
        rw [nfK_eq] at hq
        refine ⟨_, hq, hv, fun w' hb => quietAt_value ?_⟩
        have ha : (parts.map fun (i, x) => (i, a.eval x)) = l.toArray := by
          apply Array.toList_inj.mp
          simp only [Array.toList_map]
          exact h.evP hl
        show (do pure (Next.value (← Instr.build t (parts.map fun (i, x) => (i, a.eval x)))) : Sem Next).run P w' = _
        rw [ha]
        simp only [Array.toArray_toList, conc]
        exact run_value' (pbuild_run hr w')
      · exact hq.elim
    · exact hq.elim
  | extract x i =>
    simp only [qop] at hq
    split at hq
    · rename_i a1 hx
      split at hq
      · rename_i r hr
        refine ⟨_, hq, hv, fun w' hb => quietAt_value ?_⟩
        show (do pure (Next.value (← Instr.extract (a.eval x) i)) : Sem Next).run P w' = _
        rw [h.evV hx]
        exact run_value hr w'
      · exact hq.elim
    · exact hq.elim
  | nilCheck x =>
    simp only [qop] at hq
    split at hq
    · rename_i i q hx
      refine ⟨_, hq, hlt hx, fun w' hb => quietAt_value ?_⟩
      have hx' := h.ev hx
      simp only [conc] at hx'
      simp only [execOp, hx', conc]
      rfl
    · rename_i ad q hx
      refine ⟨_, hq, hlt hx, fun w' hb => quietAt_value ?_⟩
      have hx' := h.ev hx
      simp only [conc] at hx'
      simp only [execOp, hx', conc]
      rfl
    · rename_i ad q hx
      refine ⟨_, hq, hlt hx, fun w' hb => quietAt_value ?_⟩
      have hx' := h.ev hx
      simp only [conc] at hx'
      simp only [execOp, hx', conc]
      rfl
    · rename_i ad hx
      refine ⟨_, hq, ⟨fun i' hp => (by cases hp), trivial⟩, fun w' hb => quietAt_value ?_⟩
      have hx' := h.ev hx
      simp only [conc] at hx'
      have h0 : ad.add 0 = ad := by simp [Addr.add]
      simp only [execOp, hx', conc, h0]
      rfl
    · exact hq.elim
  | fieldAddr s x f =>
    simp only [qop] at hq
    split at hq
    · rename_i i q hx
      split at hq
      · rename_i off hr
        refine ⟨_, hq, ⟨fun i' hp => ?_, trivial⟩, fun w' hb => quietAt_value ?_⟩
        · cases hp; exact hlt0 hx i rfl
        · show (do pure (Next.value (← Instr.fieldAt s (a.eval x) f)) : Sem Next).run P w' = _
          rw [h.ev hx]
          have hr' := fieldAt_run (ad := ⟨σ i, q, none⟩) hr
          simp only [conc]
          rw [run_value hr' w']
          unfold Addr.add
          split
          · rename_i h0; subst h0; rfl
          · rfl
      · exact hq.elim
    · rename_i ad q hx
      split at hq
      · rename_i off hr
        refine ⟨_, hq, ⟨fun i hp => (by cases hp), trivial⟩, fun w' hb => quietAt_value ?_⟩
        show (do pure (Next.value (← Instr.fieldAt s (a.eval x) f)) : Sem Next).run P w' = _
        rw [h.ev hx]
        simp only [conc]
        rw [run_value (fieldAt_run hr) w', add_add]
      · exact hq.elim
    · rename_i i k hx
      split at hq
      · rename_i off hr
        refine ⟨_, hq, ⟨fun i' hp => ?_, trivial⟩, fun w' hb => quietAt_value ?_⟩
        · cases hp; exact hlt0 hx i rfl
        · show (do pure (Next.value (← Instr.fieldAt s (a.eval x) f)) : Sem Next).run P w' = _
          rw [h.ev hx]
          have hr' := fieldAt_run (ad := ⟨σ i, k, none⟩) hr
          simp only [conc]
          rw [run_value hr' w']
          unfold Addr.add
          split
          · rename_i h0; subst h0; rfl
          · rfl
      · exact hq.elim
    · exact hq.elim
  | indexAddr t x y =>
    simp only [qop] at hq
    split at hq
    · rename_i base len cap k i hx hy
      split at hq
      · rename_i z hr
        obtain ⟨ad, rfl, h0, h1, hK⟩ := hq
        refine ⟨_, hK, ⟨fun i hp => (by cases hp), trivial⟩, fun w' hb => quietAt_value ?_⟩
        show (do pure (Next.value (← Instr.indexAt t (a.eval x) (a.eval y))) : Sem Next).run P w' = _
        rw [h.ev hx, h.evV hy]
        simp only [conc]
        rw [run_value (indexAt_run hr h0 h1) w']
        rfl
      · exact hq.elim
    · rename_i j len cap z0 k i hx hy
      split at hq
      · rename_i z hr
        obtain ⟨_, rfl, h0, h1, hK⟩ := hq
        refine ⟨_, hK, ⟨fun i' hp => ?_, trivial⟩, fun w' hb => quietAt_value ?_⟩
        · cases hp; exact hlt0 hx j rfl
        · show (do pure (Next.value (← Instr.indexAt t (a.eval x) (a.eval y))) : Sem Next).run P w' = _
          rw [h.ev hx, h.evV hy]
          simp only [conc]
          rw [run_value (indexAt_run hr h0 h1) w']
          unfold Addr.add
          split
          · rename_i hz; rw [hz]
          · simp
      · exact hq.elim
    · exact hq.elim
  | slice t x lo hi mx =>
    cases mx with
    | some m =>
      cases hi with
      | none => simp [qop] at hq
      | some hi =>
        have bnd : ∀ {o' : Option Operand} {i : Int} {l : Nat}, bndOf e 0 o' = some i → i = (l : Int) → (o'.map a.eval = none ∧ l = 0) ∨ ∃ k j, o'.map a.eval = some (.int k j) ∧ j = (l : Int) := by
          intro o' i l hb hi
          cases o' with
          | none => simp only [bndOf, Option.some.injEq] at hb; exact .inl ⟨rfl, by omega⟩
          | some y =>
            simp only [bndOf] at hb
            split at hb
            · rename_i k j hy
              simp only [Option.some.injEq] at hb
              subst hb
              exact .inr ⟨k, j, by simp [h.evV hy], hi⟩
            · simp at hb
        simp only [qop] at hq
        split at hq
        · rename_i base len cap km m' hx hm
          split at hq
          · rename_i z a1 c1 hz ha hc
            obtain ⟨l, h', m2, el, eh, em, h1, h2, h3, hK⟩ := hq
            refine ⟨_, hK, hv, fun w' hb => quietAt_value ?_⟩
            show (do pure (Next.value (← Instr.sliceAt t (a.eval x) (lo.map a.eval) (some (a.eval hi)) (some (a.eval m)))) : Sem Next).run P w' = _
            rw [h.evV hx, h.evV hm]
            have hhi : ∃ k j, a.eval hi = .int k j ∧ j = (h' : Int) := by
              rcases bnd (o' := some hi) hc eh with ⟨h4, _⟩ | ⟨k, j, h4, h5⟩
              · cases h4
              · exact ⟨k, j, by simpa using h4, h5⟩
            obtain ⟨k, j, h4, h5⟩ := hhi
            rw [h4]
            exact run_value (slice3_run hz (bnd ha el) h5 em h1 h2 h3) w'
          · exact hq.elim
        · exact hq.elim
    | none =>
      have bnd : ∀ {o' : Option Operand} {d : Int} {i : Int} {l : Nat} {m : Nat}, bndOf e d o' = some i → d = (m : Int) → i = (l : Int) → (o'.map a.eval = none ∧ l = m) ∨ ∃ k j, o'.map a.eval = some (.int k j) ∧ j = (l : Int) := by
        intro o' d i l m hb hd hi
        cases o' with
        | none => simp only [bndOf, Option.some.injEq] at hb; exact .inl ⟨rfl, by omega⟩
        | some y =>
          simp only [bndOf] at hb
          split at hb
          · rename_i k j hy
            simp only [Option.some.injEq] at hb
            subst hb
            exact .inr ⟨k, j, by simp [h.evV hy], hi⟩
          · simp at hb
      simp only [qop] at hq
      split at hq
      · rename_i base len cap hx
        split at hq
        · rename_i z a1 c1 hz ha hc
          cases hwr : T.wr with
          | true =>
            rw [hwr] at hq
            obtain ⟨l, h', A, k', c', el, eh, h1, h2, hA, rfl, rfl, hK⟩ := hq
            refine ⟨_, hK, hv, fun w' hb => quietAt_value ?_⟩
            show (do pure (Next.value (← Instr.sliceAt t (a.eval x) (lo.map a.eval) (hi.map a.eval) none)) : Sem Next).run P w' = _
            rw [h.evV hx]
            have := run_value (slice_run (base := base) hz (bnd ha (m := 0) rfl el) (bnd hc (m := len) rfl eh) h1 h2) w'
            rw [hA] at this
            exact this
          | false =>
            rw [hwr] at hq
            obtain ⟨l, h', el, eh, h1, h2, hK⟩ := hq
            refine ⟨_, hK, hv, fun w' hb => quietAt_value ?_⟩
            show (do pure (Next.value (← Instr.sliceAt t (a.eval x) (lo.map a.eval) (hi.map a.eval) none)) : Sem Next).run P w' = _
            rw [h.evV hx]
            exact run_value (slice_run hz (bnd ha (m := 0) rfl el) (bnd hc (m := len) rfl eh) h1 h2) w'
        · exact hq.elim
      · rename_i s hx
        split at hq
        · rename_i z a1 c1 hz ha hc
          obtain ⟨l, h', el, eh, h1, h2, hK⟩ := hq
          refine ⟨_, hK, hv, fun w' hb => quietAt_value ?_⟩
          show (do pure (Next.value (← Instr.sliceAt t (a.eval x) (lo.map a.eval) (hi.map a.eval) none)) : Sem Next).run P w' = _
          rw [h.evV hx]
          exact run_value (sliceS_run hz (bnd ha (m := 0) rfl el) (bnd hc (m := s.size) rfl eh) h1 h2) w'
        · exact hq.elim
      · exact hq.elim
  | index t x y =>
    simp only [qop] at hq
    split at hq
    · rename_i s k i hx hy
      split at hq
      · rename_i z hr
        obtain ⟨h0, h1, hK⟩ := hq
        refine ⟨_, hK, hv, fun w' hb => quietAt_value ?_⟩
        show (do pure (Next.value (← Instr.index t (a.eval x) (a.eval y))) : Sem Next).run P w' = _
        rw [h.evV hx, h.evV hy]
        exact run_value (index_run hr h0 h1) w'
      · exact hq.elim
    · exact hq.elim
  | load t x =>
    simp only [qop] at hq
    have key : ∀ {ad : Addr} {u : Value} {w' : World}, a.eval x = .pointer (some ad) → (loadVar t ad).run P w' = .ok u w' →
        (execOp a.eval { dst, op := .load t x, type, pos, after, guard }).run P w' = .ok (.value u) w' := by
      intro ad u w' hx hl
      show (do pure (Next.value (← Instr.loadAt t (a.eval x))) : Sem Next).run P w' = _
      rw [hx]
      exact run_value' (by simp only [Instr.loadAt, Instr.sureAddr, Sem.run_bind, Sem.run_pure, Result.andThen_ok]; exact hl)
    split at hq
    · rename_i hs
      split at hq
      · rename_i i q hx
        split at hq
        · rename_i cs hi
          split at hq
          · rename_i u hu
            exact ⟨_, hq, hv, fun w' hb => quietAt_value (key (h.ev hx) (loadVar_one hs ((hS w' hb).cellB hi hu)))⟩
          · exact hq.elim
        · exact hq.elim
      · rename_i ad q hx
        obtain ⟨u, hu, hK⟩ := hq
        exact ⟨_, hK, hv, fun w' hb => quietAt_value (key (h.ev hx) (loadVar_one hs ((hS w' hb).cellW hu)))⟩
      · rename_i i k hx
        split at hq
        · rename_i cs hi
          obtain ⟨u, hu, hK⟩ := hq
          exact ⟨_, hK, hv, fun w' hb => quietAt_value (key (h.ev hx) (loadVar_one hs ((hS w' hb).cellB hi hu)))⟩
        · exact hq.elim
      · exact hq.elim
    · rename_i m hs
      split at hq
      · rename_i i q hx
        split at hq
        · rename_i cs hi
          cases hc : Nat.ble (q + m) cs.length with
          | false => rw [hc] at hq; exact hq.elim
          | true =>
            rw [hc] at hq
            simp only [cond_true, nfK_eq] at hq
            have hle : q + m ≤ cs.length := Nat.le_of_ble_eq_true hc
            refine ⟨_, hq, hv, fun w' hb => quietAt_value (key (h.ev hx) (loadVar_agg (vs := (cs.drop q).take m) (by rw [hs]; simp; omega) fun j u hu => ?_))⟩
            rw [List.getElem?_take] at hu
            split at hu
            · rw [List.getElem?_drop] at hu
              have := (hS w' hb).cellB hi hu
              unfold Addr.add
              split
              · rename_i h0; subst h0; exact this
              · exact this
            · simp at hu
        · exact hq.elim
      · rename_i ad q hx
        obtain ⟨vs, hl, hc, hK⟩ := ldN_out _ _ _ hq
        subst hl
        exact ⟨_, hK, hv, fun w' hb => quietAt_value (key (h.ev hx) (loadVar_agg hs fun j u hu => by rw [add_add]; exact (hS w' hb).cellW (hc j u hu)))⟩
      · rename_i i k hx
        split at hq
        · rename_i cs hi
          obtain ⟨hle, hK⟩ := hq
          refine ⟨_, hK, hv, fun w' hb => quietAt_value (key (h.ev hx) (loadVar_agg (vs := (cs.drop k).take m) (by rw [hs]; simp; omega) fun j u hu => ?_))⟩
          rw [List.getElem?_take] at hu
          split at hu
          · rw [List.getElem?_drop] at hu
            have := (hS w' hb).cellB hi hu
            unfold Addr.add
            split
            · rename_i h0; subst h0; exact this
            · exact this
          · simp at hu
        · exact hq.elim
      · exact hq.elim
    · exact hq.elim
  | call c =>
    obtain ⟨callee, args, argTypes⟩ := c
    cases callee with
    | value x =>
      simp only [qop] at hq
      split at hq
      · rename_i f l hc hl
        obtain ⟨u, ⟨hg, hA⟩, hK⟩ := hq
        refine ⟨_, hK, hv, fun w' hb => ?_⟩
        unfold Oper.quietAt
        have he : (execOp a.eval { dst, op := .call { callee := .value x, args, argTypes }, type, pos, after, guard }).run P w' = .ok (.enter f l.toArray) w' := by
          rw [exec_callC (h.calleeC hc)]
          have ha : args.map a.eval ++ #[] = l.toArray := by
            apply Array.toList_inj.mp
            simp [h.evL hl]
          rw [callFunc_run hg, ha]
        rw [he]
        exact ⟨rfl, (hA w' (hS w' hb).kn).mono fun e' w'' ⟨h1, h2⟩ => ⟨h1, hSc w' w'' hb h2, h2⟩⟩
      · rename_i f c0 r l hc hl
        obtain ⟨u, ⟨hg, hA⟩, hK⟩ := hq
        refine ⟨_, hK, hv, fun w' hb => ?_⟩
        unfold Oper.quietAt
        have he : (execOp a.eval { dst, op := .call { callee := .value x, args, argTypes }, type, pos, after, guard }).run P w' = .ok (.enter f (l ++ c0 :: r).toArray) w' := by
          rw [exec_callC (h.calleeC hc)]
          have ha : args.map a.eval ++ (c0 :: r).toArray = (l ++ c0 :: r).toArray := by
            apply Array.toList_inj.mp
            simp [h.evL hl]
          rw [callFunc_run hg, ha]
        rw [he]
        exact ⟨rfl, (hA w' (hS w' hb).kn).mono fun e' w'' ⟨h1, h2⟩ => ⟨h1, hSc w' w'' hb h2, h2⟩⟩
      · exact hq.elim
    | invoke r m => simp [qop] at hq
    | builtin bi =>
      cases bi <;> first | (simp [qop] at hq; done) | skip
      case len =>
        simp only [qop] at hq
        have key : ∀ {x : Operand} {u r : Value} {w' : World}, args.toList = [x] → a.eval x = u → prun P (Builtin.len_ argTypes type #[u]) = some r →
            (execOp a.eval { dst, op := .call { callee := .builtin .len, args, argTypes }, type, pos, after, guard }).run P w' = .ok (.value r) w' := by
          intro x u r w' hx hu hr
          have ha : args.map a.eval = #[u] := by
            apply Array.toList_inj.mp
            simp [hx, hu]
          show (do pure (Next.value (← Builtin.len_ argTypes type (args.map a.eval))) : Sem Next).run P w' = _
          rw [ha]
          exact run_value hr w'
        split at hq
        · rename_i x hx
          split at hq
          · rename_i u hu
            split at hq
            · rename_i r hr
              exact ⟨_, hq, hv, fun w' hb => quietAt_value (key hx (h.ev hu) hr)⟩
            · exact hq.elim
          · rename_i i len cap z0 hu
            split at hq
            · rename_i r hr
              exact ⟨_, hq, hv, fun w' hb => quietAt_value (key hx (h.ev hu) (len_base hr))⟩
            · exact hq.elim
          · rename_i i l hu
            split at hq
            · rename_i mty hts
              split at hq
              · rename_i u hm
                refine ⟨_, hq, hv, fun w' hb => quietAt_value ?_⟩
                have ha : args.map a.eval = #[.map (some (σ i))] := by
                  apply Array.toList_inj.mp
                  simp [hx, h.ev hu, conc]
                have ht : argTypes = #[mty] := by
                  apply Array.toList_inj.mp
                  simp [hts]
                show (do pure (Next.value (← Builtin.len_ argTypes type (args.map a.eval))) : Sem Next).run P w' = _
                rw [ha, ht]
                obtain ⟨kt, et, h1, h2⟩ := mapTy_out hm
                exact run_value' (mapLen_run h1 (mapAt_ev (hS w' hb) hu))
              · exact hq.elim
            · exact hq.elim
          · exact hq.elim
        · exact hq.elim
      case cap =>
        simp only [qop] at hq
        split at hq
        · rename_i x hx
          split at hq
          · rename_i u hu
            split at hq
            · rename_i r hr
              refine ⟨_, hq, hv, fun w' hb => quietAt_value ?_⟩
              have ha : args.map a.eval = #[u] := by
                apply Array.toList_inj.mp
                simp [hx, h.evV hu]
              show (do pure (Next.value (← Builtin.cap_ argTypes type (args.map a.eval))) : Sem Next).run P w' = _
              rw [ha]
              exact run_value hr w'
            · exact hq.elim
          · exact hq.elim
        · exact hq.elim
      case max =>
        simp only [qop] at hq
        split at hq
        · rename_i l hl
          split at hq
          · rename_i r hr
            refine ⟨_, hq, hv, fun w' hb => quietAt_value ?_⟩
            have ha : args.map a.eval = l.toArray := by
              apply Array.toList_inj.mp
              simp [h.evL hl]
            show (do pure (Next.value (← Builtin.max_ argTypes type (args.map a.eval))) : Sem Next).run P w' = _
            rw [ha]
            exact run_value hr w'
          · exact hq.elim
        · exact hq.elim
      case min =>
        simp only [qop] at hq
        split at hq
        · rename_i l hl
          split at hq
          · rename_i r hr
            refine ⟨_, hq, hv, fun w' hb => quietAt_value ?_⟩
            have ha : args.map a.eval = l.toArray := by
              apply Array.toList_inj.mp
              simp [h.evL hl]
            show (do pure (Next.value (← Builtin.min_ argTypes type (args.map a.eval))) : Sem Next).run P w' = _
            rw [ha]
            exact run_value hr w'
          · exact hq.elim
        · exact hq.elim
  | _ => simp [qop] at hq
theorem quietAt_mono {o : Oper} {C C' : World → Prop} {w' : World} {v : Value} (hC : ∀ w, C w → C' w) (h : o.quietAt P a C w' v) : o.quietAt P a C' w' v := by
  unfold Oper.quietAt at *
  generalize (execOp a.eval o).run P w' = r at *
  cases r with
  | ok n w2 =>
    cases n <;> simp only [Oper.quietUpon] at h ⊢
    case value u => exact h
    case skip => exact h
    case enter f args => exact ⟨h.1, h.2.mono fun e w'' ⟨h1, h2⟩ => ⟨h1, hC _ h2⟩⟩
  | halt x w2 => simp only [Oper.quietUpon] at h
theorem qop_soundS {S : World → Prop} {o : Oper} {K : PV → Prop} (h : Rel M0 w0 N σ e b n M a w) (hS : ∀ w', S w' → Rel M0 w0 N σ e b n M a w') (hSc : ∀ w' w'', S w' → Below w'.heap.size w' w'' → S w'') (hq : qop P T M o e b K) :
    ∃ u, K u ∧ ((∀ i, idOf u = some i → i < n) ∧ Good w0 σ b w u) ∧ ∀ w', S w' → o.quietAt P a S w' (conc σ u) := by
  obtain ⟨u, h1, h2, h3⟩ := qop_soundB h hS hSc hq
  exact ⟨u, h1, h2, fun w' hw' => quietAt_mono (fun _ hx => hx.1) (h3 w' hw')⟩
theorem qop_sound {o : Oper} {K : PV → Prop} (h : Rel M0 w0 N σ e b n M a w) (hq : qop P T M o e b K) :
    ∃ u, K u ∧ ((∀ i, idOf u = some i → i < n) ∧ Good w0 σ b w u) ∧ ∀ w', Below w.heap.size w w' → o.quietAt P a (fun w'' => Below w.heap.size w w'') w' (conc σ u) :=
  qop_soundS h (fun w' hb => h.world hb) (fun w' w'' hb hb' => hb.trans (hb'.mono hb.size)) hq
end

def one1 : Value → Bool
  | .agg _ | .tuple _ => false
  | _ => true
def allOne : List Value → Bool
  | [] => true
  | v :: r => one1 v && allOne r
def rmB : Bx → Nat → Bx
  | [], _ => []
  | (k, v) :: r, t => bif Nat.beq k t then rmB r t else (k, v) :: rmB r t
/-- An own array laid open to all: every slice over it is plain now. -/
def pubE (ad : Addr) (i : Nat) : Env → Env
  | [] => []
  | (t, .s j len cap z) :: r => bif Nat.beq j i then (t, .v (.slice (some ad) len cap)) :: pubE ad i r else (t, .s j len cap z) :: pubE ad i r
  | (t, .p j o) :: r => bif Nat.beq j i then (t, .e ad o) :: pubE ad i r else (t, .p j o) :: pubE ad i r
  | (t, .q j o) :: r => bif Nat.beq j i then (t, .e ad o) :: pubE ad i r else (t, .q j o) :: pubE ad i r
  | x :: r => x :: pubE ad i r
/-- Boxes that a function value holds, laid open to all. -/
def pubC (e : Env) (b : Bx) (M : Mem) : List Operand → (Env → Bx → Mem → Prop) → Prop
  | [], K => K e b M
  | x :: r, K =>
    match ev e x with
    | some (.p i 0) =>
      match lookB b i with
      | some cs => PubK M cs cs.length fun ad M' => pubC (pubE ad i e) (rmB b i) M' r K
      | none => False
    | some (.v _) | some (.e _ _) => pubC e b M r K
    | _ => False
def capV : PV → Option Value
  | .v u => some u
  | .e ad 0 => some (.pointer (some ad))
  | .e ad (q + 1) => some (.pointer (some (ad.add (q + 1))))
  | _ => none
def capL (e : Env) : List Operand → Option (List Value)
  | [] => some []
  | x :: r =>
    match ev e x with
    | some y =>
      match capV y, capL e r with
      | some u, some l => some (u :: l)
      | _, _ => none
    | none => none
def pubO (e : Env) (b : Bx) (M : Mem) : List Operand → (Env → Bx → Mem → Prop) → Prop
  | [], K => K e b M
  | x :: r, K =>
    match ev e x with
    | some (.s i _ cap z) =>
      match lookB b i with
      | some cs => PubK M cs (cap * z) fun ad M' => pubO (pubE ad i e) (rmB b i) M' r K
      | none => False
    | some (.v _) => pubO e b M r K
    | _ => False
/-- Rows of one's own that a struct takes in are laid open to all. -/
def pubB (e : Env) (b : Bx) (M : Mem) : List Operand → (Env → Bx → Mem → Prop) → Prop
  | [], K => K e b M
  | x :: r, K =>
    match ev e x with
    | some (.s i _ cap z) =>
      match lookB b i with
      | some cs => PubK M cs (cap * z) fun ad M' => pubB (pubE ad i e) (rmB b i) M' r K
      | none => False
    | _ => pubB e b M r K
def noS (e : Env) (x : Operand) : Bool :=
  match ev e x with
  | some (.s ..) => false
  | _ => true
/-- What a call is handed: rows of one's own and whole boxes are laid open to all. -/
def pubP (e : Env) (b : Bx) (M : Mem) : List Operand → (Env → Bx → Mem → Prop) → Prop
  | [], K => K e b M
  | x :: r, K =>
    match ev e x with
    | some (.s i _ cap z) =>
      match lookB b i with
      | some cs => PubK M cs (cap * z) fun ad M' => pubP (pubE ad i e) (rmB b i) M' r K
      | none => False
    | some (.p i 0) =>
      match lookB b i with
      | some cs => PubK M cs cs.length fun ad M' => pubP (pubE ad i e) (rmB b i) M' r K
      | none => False
    | some (.v _) | some (.e _ _) => pubP e b M r K
    | _ => False
def rmO (b : Bx) : Option Nat → Bx
  | some i => rmB b i
  | none => b
/-- What is appended to: an own row, or nil. -/
def dstK (e : Env) (b : Bx) (x : Operand) (z : Nat) (K : Nat → Option Nat → List Value → Prop) : Prop :=
  match ev e x with
  | some (.s i len _ z') =>
    match lookB b i with
    | some cs => bif Nat.beq z' z then K len (some i) cs else False
    | none => False
  | some (.v (.slice none 0 0)) => K 0 none []
  | _ => False
def srcK (e : Env) (b : Bx) (M : Mem) (x : Operand) (z : Nat) (K : Nat → List Value → Prop) : Prop :=
  match ev e x with
  | some (.s i len _ z') =>
    match lookB b i with
    | some ds => bif Nat.beq z' z then K len ds else False
    | none => False
  | some (.v (.slice base k _)) => SrcK M base (k * z) fun ds => K k ds
  | _ => False
abbrev Kont := Env → Bx → Nat → Mem → Prop
def delTy (mty kt' : TypeId) : Sem Unit := do
  let .map kt _ ← underlying mty | stuck ""
  let .string ← underlying kt | stuck ""
  if kt = kt' then pure () else stuck ""
/-- As many zero elements behind a known slice that must grow. -/
inductive AppZ (M : Mem) (ad : Addr) (len cap z by_ : Nat) (l : Int) (K : List Value → Nat → Nat → Prop) : Prop where
  | mk (k : Nat) (hk : l = (k : Int)) (hgt : ¬ len + k ≤ cap) (cs : List Value) (hl : cs.length = len * z) (hc : ∀ o u, cs[o]? = some u → M (ad.add o) = some u) (hm : len + k ≤ 1000000000000) (hbd : (2 * (len + k) + 512) * by_ ≤ 281474976710656) (h : ∀ cap', len + k ≤ cap' → K cs cap' k)
/-- Several cells of known memory written. -/
inductive WrL (wr : Bool) (base M : Mem) (ad : Addr) (vs : List Value) (K : Mem → Prop) : Prop where
  | mk (hw : wr = true) (h : ∀ o, o < vs.length → (M (ad.add o)).isSome = true) (hb : ∀ o, o < vs.length → base (ad.add o) = none) (ho : allOne vs = true)
      (k : ∀ M', (∀ o u, vs[o]? = some u → M' (ad.add o) = some u) → (∀ a, (∀ o, o < vs.length → a ≠ ad.add o) → M' a = M a) → K M')
/-- An append to a known slice: in its place, or grown. -/
inductive AppX (wr : Bool) (base M : Mem) (ad : Addr) (len cap z k by_ : Nat) (ds : List Value) (K1 : Mem → Prop) (K2 : List Value → Nat → Prop) : Prop where
  | w (hle : len + k ≤ cap) (x : WrL wr base M (ad.add (len * z)) ds K1)
  | g (hgt : ¬ len + k ≤ cap) (cs : List Value) (hl : cs.length = len * z) (hc : ∀ o u, cs[o]? = some u → M (ad.add o) = some u) (ho : allOne (cs ++ ds) = true) (hm : len + k ≤ 1000000000000) (hbd : (2 * (len + k) + 512) * by_ ≤ 281474976710656) (k : ∀ cap', len + k ≤ cap' → K2 cs cap')
def appD (wr : Bool) (base : Mem) (e : Env) (b : Bx) (M : Mem) (d : Option Tmp) (n : Nat) (K : Kont) (sx xx : Operand) (z by_ : Nat) (A : Prop) : Prop :=
  match ev e sx with
  | some (.v (.slice (some ad) len cap)) =>
    srcK e b M xx z fun k ds => AppX wr base M ad len cap z k by_ ds (fun M' => K (put e d (.v (.slice (some ad) (len + k) cap))) b n M') fun cs cap' => K (put e d (.s n (len + k) cap' z)) ((n, cs ++ ds) :: b) (n + 1) M
  | _ => A
def pop (P : Program) (T : Tab P) (N : Nat) (o : Oper) (e : Env) (b : Bx) (n : Nat) (M : Mem) (K : Kont) : Prop :=
  withD o.dst fun d => bif dOk N d then
    match o.op with
    | .alloc t => match prun P (zeroValue t) with | some v => nfK v.cells.toList fun cs => K (put e d (.p n 0)) ((n, cs) :: b) (n + 1) M | none => False
    | .box t x => pubO e b M [x] fun e b M => match evV e x with | some v => nfK v.cells.toList fun cs => K (put e d (.p n 0)) ((n, cs) :: b) (n + 1) M | none => False
    | .store t x y => pubO e b M [y] fun e b M =>
      match ev e x, evV e y with
      | some (.p i q), some v =>
        match lookB b i, prun P (sizeOf t) with
        | some cs, some m =>
          bif Nat.beq v.cells.size m && (Nat.ble (q + m) cs.length && allOne v.cells.toList) then nfK (splice cs q v.cells.toList) fun cs => K (put e d (.v undef)) ((i, cs) :: b) n M else False
        | _, _ => False
      | some (.q i q), some v =>
        match lookB b i, prun P (sizeOf t) with
        | some cs, some m =>
          bif Nat.beq v.cells.size m && allOne v.cells.toList then Owe (q + m ≤ cs.length) (K (put e d (.v undef)) ((i, setAt cs q v.cells.toList) :: b) n M) else False
        | _, _ => False
      | some (.e ad q), some v =>
        match v.cells.toList, prun P (sizeOf t) with
        | [u], some m => bif Nat.beq m 1 && one1 u then WrK T.wr T.base M (ad.add q) u fun M => K (put e d (.v undef)) b n M else False
        | u :: u' :: r, some m => bif Nat.beq m (r.length + 2) then WrL T.wr T.base M (ad.add q) (u :: u' :: r) fun M => K (put e d (.v undef)) b n M else False
        | _, _ => False
      | _, _ => False
    | .buildSlice t len parts =>
      match evP e parts.toList, prun P (elemInfo t) with
      | some ps, some (z, _, Z, _) =>
        match pfillS z (List.replicate len Z).flatten ps with
        | some cs => bif Nat.ble (len * z) 16777216 then nfK cs fun cs => K (put e d (.s n len len z)) ((n, cs) :: b) (n + 1) M else False
        | none => False
      | _, _ => False
    | .makeSlice t x y =>
      match evV e x, evV e y with
      | some (.int _ len), some (.int _ c) =>
        match prun P (elemInfo t) with
        | some (z, by_, Z, _) => MkK len c by_ fun m => K (put e d (.s n m m z)) ((n, (List.replicate m Z).flatten) :: b) (n + 1) M
        | none => False
      | _, _ => False
    | .slice t x lo hi mx => pubO e b M [x] fun e b M => qop P T M o e b fun u => K (put e d u) b n M
    | .build t parts => pubB e b M (parts.toList.map Prod.snd) fun e b M => qop P T M o e b fun u => K (put e d u) b n M
    | .makeMap t none => match prun P (mapTy t) with | some _ => K (put e d (.m n [])) b (n + 1) M | none => False
    | .mapUpdate t x k y =>
      match ev e x, evV e k, evV e y, prun P (mapTy t) with
      | some (.m i l), some (.string s), some v, some _ => bif oneMap i e then K (put (mapE i (mapU l s v) e) d (.v undef)) b n M else False
      | _, _, _, _ => False
    | .call { callee := .builtin .delete, args := xs, argTypes := ts } =>
      match xs.toList, ts.toList with
      | [x, k], [mty, kt] =>
        match ev e x, evV e k, prun P (delTy mty kt) with
        | some (.m i l), some (.string s), some _ => bif oneMap i e then K (put (mapE i (mapX l s) e) d (.v (.tuple #[]))) b n M else False
        | _, _, _ => False
      | _, _ => False
    | .call { callee := .builtin .append, args := xs, argTypes := ts } =>
      match xs.toList, ts.toList with
      | [sx, xx], [t0, t1] =>
        match prun P (elemInfo t0), prun P (appOk t1) with
        | some (z, by_, Z, _), none =>
          match prun P (intTy t1), ev e sx, evV e xx with
          | some _, some (.v (.slice (some ad) len cap)), some (.int _ l) => AppZ M ad len cap z by_ l fun cs cap' k => K (put e d (.s n (len + k) cap' z)) ((n, cs ++ (List.replicate k Z).flatten) :: b) (n + 1) M
          | _, _, _ => False
        | some (z, by_, _, _), some _ =>
          appD T.wr T.base e b M d n K sx xx z by_ (dstK e b sx z fun len i cs => srcK e b M xx z fun k ds => AppK i (len + k) k by_ ds allOne (K (put e d (.v (.slice none 0 0))) b n M) fun cap => K (put e d (.s n (len + k) cap z)) ((n, cs ++ ds) :: rmO b i) (n + 1) M)
        | _, _ => False
      | _, _ => False
    | .call { callee := .builtin .copy, args := xs, argTypes := ts } =>
      match xs.toList, ts.toList with
      | [sx, xx], [t0, _] =>
        match prun P (elemInfo t0), ev e sx with
        | some (z, _, _, _), some (.v (.slice (some ad) dn _)) =>
          srcK e b M xx z fun k ds => WrL T.wr T.base M ad (ds.take (min k dn * z)) fun M => K (put e d (.v (goInt ((min k dn : Nat) : Int)))) b n M
        | _, _ => False
      | _, _ => False
    | .call { callee := .builtin .clear, args := xs, argTypes := ts } =>
      match xs.toList, ts.toList with
      | [sx], [t0] =>
        match prun P (elemInfo t0), ev e sx with
        | some (z, _, Z, _), some (.v (.slice (some ad) (dn + 1) _)) => WrL T.wr T.base M ad (List.replicate (dn + 1) Z).flatten fun M => K (put e d (.v (.tuple #[]))) b n M
        | some _, some (.v (.slice none _ _)) => K (put e d (.v (.tuple #[]))) b n M
        | some _, some (.v (.slice _ 0 _)) => K (put e d (.v (.tuple #[]))) b n M
        | _, _ => False
      | _, _ => False
    | .call { callee := .value x, args := xs, argTypes := _ } =>
      pubP e b M xs.toList fun e b M =>
      match calleeC e x, capL e xs.toList with
      | some (f, []), some l => CallK P T.wr T.base M f l.toArray fun u M => K (put e d (.v u)) b n M
      | some (f, c :: r), some l => CallK P T.wr T.base M f (l ++ c :: r).toArray fun u M => K (put e d (.v u)) b n M
      | _, _ => False
    | .makeFunc (.func f) first cap =>
      match first.toList with
      | [] => pubC e b M cap.toList fun e b M =>
        match capL e cap.toList with
        | some l => K (put e d (.v (.func (.func f) #[] l.toArray))) b n M
        | none => False
      | _ => False
    | _ => qop P T M o e b fun u => K (put e d u) b n M
  else False
def guardOf (e : Env) (ops : Array Oper) (j : Nat) : Option PV :=
  match (ops[j]?).bind (·.dst) with
  | some t => look e t
  | none => none
/-- Behind a guard's test its value is plain. -/
def gset (e : Env) (ops : Array Oper) (j : Nat) (t : Bool) : Env :=
  match (ops[j]?).bind (·.dst) with
  | some d => (d, .v (.bool t)) :: e
  | none => e
def skipO (N : Nat) (o : Oper) (e : Env) (b : Bx) (n : Nat) (M : Mem) (K : Kont) : Prop :=
  withD o.dst fun d => bif dOk N d then K (put e d (.v undef)) b n M else False
def gpop (P : Program) (T : Tab P) (N : Nat) (ops : Array Oper) (o : Oper) (e : Env) (b : Bx) (n : Nat) (M : Mem) (K : Kont) : Prop :=
  match o.guard with
  | none => pop P T N o e b n M K
  | some (j, want) =>
    match guardOf e ops j with
    | some (.v (.bool t)) =>
      match want with
      | true => GuardK t true (pop P T N o (gset e ops j true) b n M K) (skipO N o (gset e ops j false) b n M K)
      | false => GuardK t false (pop P T N o (gset e ops j false) b n M K) (skipO N o (gset e ops j true) b n M K)
    | some (.v (.tuple _)) => skipO N o e b n M K
    | _ => False
def pops (P : Program) (T : Tab P) (N : Nat) (ops : Array Oper) : List Oper → Env → Bx → Nat → Mem → Kont → Prop
  | [], e, b, n, M, K => K e b n M
  | [o], e, b, n, M, K => gpop P T N ops o e b n M K
  | o :: o' :: r, e, b, n, M, K => gpop P T N ops o e b n M fun e b n M => pops P T N ops (o' :: r) e b n M K
def qops (P : Program) (T : Tab P) (M : Mem) (N : Nat) (ops : Array Oper) : List Oper → Env → Bx → (Env → Prop) → Prop
  | [], e, b, K => K e
  | o :: r, e, b, K =>
    match o.guard with
    | none => withD o.dst fun d => bif dOk N d then qop P T M o e b fun u => qops P T M N ops r (put e d u) b K else False
    | some (j, want) =>
      match guardOf e ops j with
      | some (.v (.bool t)) =>
        match want with
        | true => GuardK t true (withD o.dst fun d => bif dOk N d then qop P T M o (gset e ops j true) b fun u => qops P T M N ops r (put (gset e ops j true) d u) b K else False)
          (withD o.dst fun d => bif dOk N d then qops P T M N ops r (put (gset e ops j false) d (.v undef)) b K else False)
        | false => GuardK t false (withD o.dst fun d => bif dOk N d then qop P T M o (gset e ops j false) b fun u => qops P T M N ops r (put (gset e ops j false) d u) b K else False)
          (withD o.dst fun d => bif dOk N d then qops P T M N ops r (put (gset e ops j true) d (.v undef)) b K else False)
      | some (.v (.tuple _)) => withD o.dst fun d => bif dOk N d then qops P T M N ops r (put e d (.v undef)) b K else False
      | _ => False
/-! A region that asks the tape and makes memory: every order. -/
def okEs (done : List Bool) : List Edge → Bool
  | [] => true
  | x :: r => (!Region.binds .any x || done.getD x.on false) && okEs done r
def rdyL (done : List Bool) : Nat → List Oper → List Nat
  | _, [] => []
  | i, o :: r => bif !done.getD i true && okEs done o.after.toList then i :: rdyL done (i + 1) r else rdyL done (i + 1) r
def allK (f : Nat → Prop) : List Nat → Prop
  | [] => True
  | [i] => f i
  | i :: r => AndK (f i) (allK f r)
def pany (P : Program) (T : Tab P) (N : Nat) (ops : Array Oper) : Nat → List Bool → Env → Bx → Nat → Mem → Kont → Prop
  | 0, done, e, b, n, M, K =>
    match rdyL done 0 ops.toList with
    | [] => K e b n M
    | _ => False
  | fuel + 1, done, e, b, n, M, K =>
    match rdyL done 0 ops.toList with
    | [] => K e b n M
    | l => allK (fun i =>
      match ops.toList[i]? with
      | some o => gpop P T N ops o e b n M fun e b n M => pany P T N ops fuel (done.set i true) e b n M K
      | none => False) l
def SubL : Env → Env → Prop
  | [], _ => True
  | (k, v) :: r, e => look e k = some v ∧ SubL r e
def SubB : Bx → Bx → Prop
  | [], _ => True
  | (k, v) :: r, b => lookB b k = some v ∧ SubB r b
def ptrsLt (n : Nat) : Env → Bool
  | [] => true
  | (_, x) :: r => (match idOf x with | some i => Nat.blt i n | none => true) && ptrsLt n r
def boxLt (n : Nat) : Bx → Bool
  | [] => true
  | (i, _) :: r => Nat.blt i n && boxLt n r
structure Fits (E : Env) (B : Bx) (n : Nat) (e : Env) (b : Bx) (n' : Nat) : Prop where
  env : SubL E e
  box : SubB B b
  ptr : ptrsLt n E = true
  bx : boxLt n B = true
/-! Two own numbers changed about: a row that grows in a loop keeps its number. -/
def sw (r q i : Nat) : Nat := bif Nat.beq i r then q else bif Nat.beq i q then r else i
def swP (r q : Nat) : PV → PV
  | .p i o => .p (sw r q i) o
  | .s i l c z => .s (sw r q i) l c z
  | .q i k => .q (sw r q i) k
  | .m i l => .m (sw r q i) l
  | .v x => .v x
  | .e ad o => .e ad o
def swE (r q : Nat) : Env → Env
  | [] => []
  | (k, v) :: t => (k, swP r q v) :: swE r q t
def swB (r q : Nat) : Bx → Bx
  | [] => []
  | (i, cs) :: t => (sw r q i, cs) :: swB r q t
structure FitsS (r q : Nat) (E : Env) (B : Bx) (n : Nat) (e : Env) (b : Bx) : Prop where
  env : SubL (swE r q E) e
  box : SubB (swB r q B) b
  ptr : ptrsLt n E = true
  bx : boxLt n B = true
theorem sw_sw (r q i : Nat) : sw r q (sw r q i) = i := by
  unfold sw
  cases h1 : Nat.beq i r with
  | true =>
    have := Nat.eq_of_beq_eq_true h1
    subst this
    simp only [cond_true]
    cases h2 : Nat.beq q i with
    | true => exact Nat.eq_of_beq_eq_true h2
    | false => simp
  | false =>
    simp only [cond_false]
    cases h2 : Nat.beq i q with
    | true =>
      have := Nat.eq_of_beq_eq_true h2
      subst this
      simp
    | false => simp [h1, h2]
theorem look_swE {r q : Nat} : ∀ {E : Env} {t : Nat} {x : PV}, look E t = some x → look (swE r q E) t = some (swP r q x)
  | [], t, x, h => by simp [look] at h
  | (k, v) :: E, t, x, h => by
    simp only [look] at h
    simp only [swE, look]
    cases hk : Nat.beq k t with
    | true =>
      rw [hk] at h
      simp only [cond_true, Option.some.injEq] at h ⊢
      rw [h]
    | false =>
      rw [hk] at h
      exact look_swE h
theorem lookB_swB {r q : Nat} : ∀ {B : Bx} {i : Nat} {cs : List Value}, lookB B i = some cs → lookB (swB r q B) (sw r q i) = some cs
  | [], i, cs, h => by simp [lookB] at h
  | (k, v) :: B, i, cs, h => by
    simp only [lookB] at h
    simp only [swB, lookB]
    cases hk : Nat.beq k i with
    | true =>
      rw [hk] at h
      rw [Nat.eq_of_beq_eq_true hk]
      simpa using h
    | false =>
      rw [hk] at h
      have hne : Nat.beq (sw r q k) (sw r q i) = false := by
        cases hh : Nat.beq (sw r q k) (sw r q i) with
        | false => rfl
        | true =>
          have := congrArg (sw r q) (Nat.eq_of_beq_eq_true hh)
          rw [sw_sw, sw_sw] at this
          subst this
          simp at hk
      rw [hne]
      exact lookB_swB h
theorem conc_sw (σ : Nat → Nat) (r q : Nat) (x : PV) : conc σ (swP r q x) = conc (fun i => σ (sw r q i)) x := by cases x <;> rfl
/-! A region that asks the tape: quiet operations first, then a tail in its one order. -/
section
variable {P : Program} {ops : Array Oper} {md : Region.Mode} {C : World → Prop}
def wpHead (P : Program) (md : Region.Mode) (ops : Array Oper) (C : World → Prop) (n : Nat) (L : Array Bool → Act → Prop) : Nat → Array Bool → Act → Prop
  | 0, listed, a => L listed a
  | f + 1, listed, a => Region.ready md ops listed ≠ [] ∧ ∀ i ∈ Region.ready md ops listed, i < n ∧ qOp P ops C i (wpHead P md ops C n L f (listed.setIfInBounds i true)) a
theorem wpAny_head {n g : Nat} {L : Array Bool → Act → Prop} {Q' : Exit → Act → World → Prop} (hL : ∀ listed a w, C w → L listed a → wpAny P md ops Q' g listed a w) :
    ∀ (f : Nat) (listed : Array Bool) (a : Act) (w : World), C w → wpHead P md ops C n L f listed a → wpAny P md ops Q' (f + g) listed a w
  | 0, listed, a, w, hw, h => by rw [Nat.zero_add]; exact hL _ _ _ hw h
  | f + 1, listed, a, w, hw, h => by
    rw [show f + 1 + g = (f + g) + 1 by omega]
    exact ⟨fun h0 => absurd h0 h.1, fun i hi => wpOp_of_qOp hw (fun a' w' hw' h' => wpAny_head hL f _ a' w' hw' h') (h.2 i hi).2⟩
theorem wpHead_first {n i : Nat} {oi : Oper} {v : Value} {L : Array Bool → Act → Prop} (hi : ops[i]? = some oi) (hsel : ∀ (j : Nat) (o : Oper) cs b, ops[j]? = some o → o.op ≠ .select cs b)
    (hs : Region.sinkB md ops n = true) (hc : Region.chainB md ops n = true) (hn : n < ops.size) (hin : i < n)
    (hdone : ∀ listed a, L listed a → ∀ j ∈ Region.ready md ops listed, n ≤ j) :
    ∀ (f : Nat) (listed : Array Bool) (a : Act), HeadInv md ops n listed →
      (∀ j oj, ops[j]? = some oj → j ≠ i → listed.getD j true = false → (∀ e ∈ oj.after, Region.binds md e = true → e.on ≠ i) → oi.apart ops oj = true) →
      i ∈ Region.ready md ops listed → YieldsIn P ops C oi v a →
      wpHead P md ops C n L f (listed.setIfInBounds i true) (a.put oi.dst v) → wpHead P md ops C n L (f + 1) listed a := by
  intro f
  induction f with
  | zero =>
    intro listed a inv _ hr hy H
    have hun := (mem_ready.1 hr).1
    refine ⟨fun h => (by rw [h] at hr; cases hr), fun j hj => ?_⟩
    have hjn : j < n := Nat.lt_of_not_le fun h => tail_waits hs hc hn inv _ i rfl hin hun j h hj
    refine ⟨hjn, ?_⟩
    by_cases hji : j = i
    · subst hji; exact hy.qOp hi H
    · have := hdone _ _ H j (ready_mono hj hji); omega
  | succ f ih =>
    intro listed a inv hfree hr hy H
    have hun := (mem_ready.1 hr).1
    refine ⟨fun h => (by rw [h] at hr; cases hr), fun j hj => ?_⟩
    have hjn : j < n := Nat.lt_of_not_le fun h => tail_waits hs hc hn inv _ i rfl hin hun j h hj
    refine ⟨hjn, ?_⟩
    by_cases hji : j = i
    · subst hji; exact hy.qOp hi H
    · obtain ⟨hjun, oj, hoj, hall⟩ := mem_ready.1 hj
      have hnot : ∀ e ∈ oj.after, Region.binds md e = true → e.on ≠ i := fun e he hb heq => by
        have h1 := hall e he hb
        rw [heq, getD_both hun] at h1
        cases h1
      have h2 := qOp_put hoj (hfree j oj hoj hji hjun hnot) (fun cs b => hsel i oi cs b hi) (fun cs b => hsel j oj cs b hoj) hy (H.2 j (ready_mono hj hji)).2
      refine qOp_mono (fun a' h3 => ih (listed.setIfInBounds j true) a' (inv.set hj hjn) (fun k ok hk hki hun' hno => hfree k ok hk hki ?_ hno) (ready_mono hr (Ne.symm hji)) h3.1 ?_) h2
      · by_cases hjk : j = k
        · subst hjk; exact hjun
        · rw [getD_set_ne true hjk] at hun'; exact hun'
      · rw [Array.setIfInBounds_comm _ _ hji]
        exact h3.2
theorem wpHead_lex {n g : Nat} {Lq : Act → Prop} (hsel : Region.noSelect ops = true) (hs : Region.sinkB md ops n = true) (hc : Region.chainB md ops n = true) (hn : n < ops.size) :
    ∀ (l : List Oper) (k : Nat) (listed : Array Bool) (a : Act), (∀ j, j < l.length → l[j]? = ops[k + j]?) → k + l.length = n → HeadInv md ops n listed →
    Region.lexHead md ops g l.length k listed = true → wpQuiet P ops C Lq l a →
    wpHead P md ops C n (fun listed' a' => Region.seqB md ops g n listed' = true ∧ Lq a') l.length listed a
  | [], k, listed, a, hl, hk, _, hB, h => by
    have : k = n := by simpa using hk
    subst this
    exact ⟨by simpa [Region.lexHead] using hB, h⟩
  | o :: l, k, listed, a, hl, hk, inv, hB, h => by
    have h0 : ops[k]? = some o := by simpa using (hl 0 (by simp)).symm
    simp only [List.length_cons, Region.lexHead, Bool.and_eq_true] at hB
    obtain ⟨⟨hr, hf⟩, hB'⟩ := hB
    have hkn : k < n := by simp only [List.length_cons] at hk; omega
    have hr' : k ∈ Region.ready md ops listed := by simpa using hr
    have hst : qOp P ops C k (wpQuiet P ops C Lq l) a := by unfold qOp; simp only [h0]; exact h
    obtain ⟨v, hy, hK⟩ := yieldsIn_of_qOp h0 hst
    exact wpHead_first h0 (Region.noSelect_spec hsel) hs hc hn hkn (fun listed' a' hL => seqB_ready hL.1) l.length listed a inv (Region.free_spec h0 hf) hr' hy
      (wpHead_lex hsel hs hc hn l (k + 1) _ _ (fun j hj => by have := hl (j + 1) (by simp; omega); simpa [Nat.add_assoc, Nat.add_comm 1 j] using this) (by simp only [List.length_cons] at hk; omega) (inv.set hr' hkn) hB' hK)
theorem wp_region_quiet_tail {id : Nat} {Q : Exit → Act → World → Prop} {a : Act} {w : World} (n : Nat) (hm : P.follows .mixedOrders = true) (hB : Region.lexTailB .any ops n = true) (hC : C { w with drawn := w.drawn + 1 })
    (h : wpQuiet P ops C (fun a' => ∀ w', C w' → wpList P ops Q (ops.toList.drop n) a' w') (ops.toList.take n) a) : (Code.region id ops true).wp P Q a w := by
  simp only [Region.lexTailB, Bool.and_eq_true, decide_eq_true_eq] at hB
  obtain ⟨⟨⟨⟨hsel, hn⟩, hs⟩, hc⟩, hlex⟩ := hB
  have htl : (ops.toList.take n).length = n := by simp; omega
  have hdl : (ops.toList.drop n).length = ops.size - n := by simp
  have inv0 : HeadInv .any ops n (Array.replicate ops.size false) :=
    ⟨by simp, fun j oj _ hl => (by rw [getD_replicate_false] at hl; cases hl), fun t _ ht => getD_in (by simpa using ht) (getD_replicate_false _ _)⟩
  have H := wpHead_lex (md := .any) (C := C) (g := ops.size - n) hsel hs hc hn (ops.toList.take n) 0 _ a (fun j hj => by
    have hj' : j < n := by rw [htl] at hj; exact hj
    simp [hj']) (by simpa using htl) inv0 (by rw [htl]; exact hlex) h
  refine wp_region_any hm ?_
  have := wpAny_head (Q' := Q) (g := ops.size - n) (fun listed a' w' hw' hL => by
    have := wpAny_of_seq (Q' := Q) (ops.toList.drop n) n listed a' w' (fun j => by simp) (by rw [hdl]; exact hL.1) (hL.2 w' hw')
    rw [hdl] at this
    exact this) _ _ _ _ hC H
  rw [htl, show n + (ops.size - n) = ops.size by omega] at this
  exact this
end
/-! A region that asks the tape: calls that leave what stood alone are taken first, rows are made in every order. -/
section
variable {P : Program} {ops : Array Oper} {md : Region.Mode} {Q : Exit → Act → World → Prop}
def Bw (w w' : World) : Prop := Below w.heap.size w w'
theorem Bw.refl (w : World) : Bw w w := Below.refl _ _
theorem Bw.trans {x y z : World} (h : Bw x y) (k : Bw y z) : Bw x z := Below.trans h (Below.mono k h.size)
/-- From a world on, and from every one behind it, the operation leaves v in its temporary, and what stood as it was. -/
def YieldsB (P : Program) (ops : Array Oper) (o : Oper) (v : Value) (a : Act) (w : World) : Prop :=
  (Region.wanted o (yielded ops a.tmps) = true ∧ ∀ w', Bw w w' → o.quietAt P a (fun w'' => Bw w' w'') w' v) ∨ (Region.wanted o (yielded ops a.tmps) = false ∧ v = undef)
theorem YieldsB.of_same {o : Oper} {v : Value} {a a' : Act} {w : World} (hy : YieldsB P ops o v a w) (he : execOp a'.eval o = execOp a.eval o)
    (hw : Region.wanted o (yielded ops a'.tmps) = Region.wanted o (yielded ops a.tmps)) : YieldsB P ops o v a' w := by
  unfold YieldsB Oper.quietAt at *
  rw [he, hw]
  exact hy
theorem YieldsB.up {o : Oper} {v : Value} {a : Act} {w w' : World} (hy : YieldsB P ops o v a w) (hb : Bw w w') : YieldsB P ops o v a w' :=
  hy.imp (fun ⟨h1, h2⟩ => ⟨h1, fun x hx => h2 x (hb.trans hx)⟩) id
theorem YieldsB.wpOp {i : Nat} {o : Oper} {v : Value} {a : Act} {w w' : World} (hi : ops[i]? = some o) (hy : YieldsB P ops o v a w) (hb : Bw w w') {K : Act → World → Prop} (h : ∀ w'', Bw w' w'' → K (a.put o.dst v) w'') : wpOp P ops Q i K a w' := by
  unfold Go.wpOp
  simp only [hi]
  rcases hy with ⟨hw, hv⟩ | ⟨hw, rfl⟩
  · simp only [hw, if_true]
    refine .inl ?_
    have h3 := hv w' hb
    unfold Oper.quietAt at h3
    unfold Oper.wp
    generalize (execOp a.eval o).run P w' = r at *
    cases r with
    | ok n w2 =>
      cases n <;> simp only [Oper.quietUpon] at h3 <;> simp only [Oper.upon]
      case value u =>
        obtain ⟨e1, e2⟩ := h3
        subst e1 e2
        exact h _ (Bw.refl _)
      case skip =>
        obtain ⟨e1, e2⟩ := h3
        subst e1 e2
        exact h _ (Bw.refl _)
      case enter f args =>
        obtain ⟨e1, hc⟩ := h3
        subst e1
        exact hc.mono fun e w'' ⟨he, hw''⟩ => by subst he; exact h _ hw''
    | halt x w2 => simp only [Oper.quietUpon] at h3
  · simp only [hw, Bool.false_eq_true, if_false]; exact h _ (Bw.refl _)
theorem wpOp_putB {j : Nat} {oi oj : Oper} {v : Value} {w0 : World} (hj : ops[j]? = some oj) (hap : oi.apart ops oj = true)
    (hsi : ∀ cs b, oi.op ≠ .select cs b) (hsj : ∀ cs b, oj.op ≠ .select cs b)
    (hQ : ∀ c a w, Q (.panic c) (a.put oi.dst v) w → Q (.panic c) a w) {K : Act → World → Prop} {a : Act} {w : World}
    (hy : YieldsB P ops oi v a w0) (h : wpOp P ops Q j K (a.put oi.dst v) w) :
    wpOp P ops Q j (fun a' w' => YieldsB P ops oi v a' w0 ∧ K (a'.put oi.dst v) w') a w := by
  obtain ⟨h1, h2, h3⟩ := Oper.apart_spec hap
  have keep : ∀ (a : Act), YieldsB P ops oi v a w0 → ∀ u, YieldsB P ops oi v (a.put oj.dst u) w0 := fun a hy u =>
    hy.of_same (execOp_put oi hsi a oj.dst u h3) (wanted_put oi a oj.dst u h3)
  have keepD : ∀ d, YieldsB P ops oi v { a with defers := d :: a.defers } w0 := fun d => hy.of_same rfl rfl
  unfold wpOp at *
  simp only [hj] at *
  rw [wanted_put oj a oi.dst v h1] at h
  split
  · rename_i hw
    simp only [hw, if_true] at h
    rcases h with h | ⟨hasks, hlets⟩
    case inr => exact .inr ⟨by unfold Oper.asks at *; rw [execOp_put oj hsj a oi.dst v h1] at hasks; exact hasks, hlets⟩
    refine .inl ?_
    unfold Oper.wp at *
    rw [execOp_put oj hsj a oi.dst v h1] at h
    generalize (execOp a.eval oj).run P w = r at *
    cases r with
    | ok n w' =>
      cases n <;> simp only [Oper.upon] at h ⊢
      case value u => exact ⟨keep a hy u, by rw [← Act.put_comm a v u h2]; exact h⟩
      case skip => exact ⟨keep a hy _, by rw [← Act.put_comm a v undef h2]; exact h⟩
      case defer d =>
        refine ⟨keep _ (keepD d) _, ?_⟩
        rw [← Act.put_comm _ v undef h2, ← Act.put_defers]
        exact h
      case enter f args =>
        refine Calls.mono h fun e w'' he => ?_
        cases e with
        | returned u => exact ⟨keep a hy u, by rw [← Act.put_comm a v u h2]; exact he⟩
        | panicked c => exact hQ _ _ _ he
        | outgrown => exact he
      case row row args => exact Rows.mono h fun u w'' he => ⟨keep a hy u, by rw [← Act.put_comm a v u h2]; exact he⟩
    | halt x w' =>
      cases x <;> simp only [Oper.upon] at h ⊢
      case panic u => exact hQ _ _ _ h
  · rename_i hw
    simp only [hw] at h
    exact ⟨keep a hy _, by rw [← Act.put_comm a v undef h2]; exact h⟩
/-- Whatever order is picked from here on, in this world and in every one behind it. -/
def wpAnyC (P : Program) (md : Region.Mode) (ops : Array Oper) (Q : Exit → Act → World → Prop) : Nat → Array Bool → Act → World → Prop
  | 0, listed, a, w => Region.ready md ops listed = [] ∧ ∀ w', Bw w w' → Q .normal a w'
  | fuel + 1, listed, a, w => ∀ w', Bw w w' → (Region.ready md ops listed = [] → Q .normal a w') ∧
    ∀ i ∈ Region.ready md ops listed, wpOp P ops Q i (fun a' w'' => Bw w' w'' ∧ wpAnyC P md ops Q fuel (listed.setIfInBounds i true) a' w'') a w'
theorem wpAnyC_up : ∀ {fuel : Nat} {listed : Array Bool} {a : Act} {w w' : World}, Bw w w' → wpAnyC P md ops Q fuel listed a w → wpAnyC P md ops Q fuel listed a w'
  | 0, _, _, _, _, hb, h => ⟨h.1, fun x hx => h.2 x (hb.trans hx)⟩
  | _ + 1, _, _, _, _, hb, h => fun x hx => h x (hb.trans hx)
theorem wpAny_of_C : ∀ (fuel : Nat) (listed : Array Bool) (a : Act) (w : World), wpAnyC P md ops Q fuel listed a w → wpAny P md ops Q fuel listed a w
  | 0, _, _, _, h => ⟨h.1, h.2 _ (Bw.refl _)⟩
  | fuel + 1, _, _, w, h => ⟨(h w (Bw.refl _)).1, fun i hi => wpOp_mono (fun a' w' h' => wpAny_of_C fuel _ a' w' h'.2) ((h w (Bw.refl _)).2 i hi)⟩
theorem wpAnyC_first {i : Nat} {oi : Oper} {v : Value} (hi : ops[i]? = some oi) (hsel : ∀ (j : Nat) (o : Oper) cs b, ops[j]? = some o → o.op ≠ .select cs b)
    (hQ : ∀ c a w, Q (.panic c) (a.put oi.dst v) w → Q (.panic c) a w) :
    ∀ (fuel : Nat) (listed : Array Bool) (a : Act) (w : World),
      (∀ j oj, ops[j]? = some oj → j ≠ i → listed.getD j true = false → (∀ e ∈ oj.after, Region.binds md e = true → e.on ≠ i) → oi.apart ops oj = true) →
      i ∈ Region.ready md ops listed → YieldsB P ops oi v a w →
      wpAnyC P md ops Q fuel (listed.setIfInBounds i true) (a.put oi.dst v) w → wpAnyC P md ops Q (fuel + 1) listed a w := by
  intro fuel
  induction fuel with
  | zero =>
    intro listed a w _ hr hy H w' hb
    refine ⟨fun h => (by rw [h] at hr; cases hr), fun j hj => ?_⟩
    by_cases hji : j = i
    · subst hji; exact hy.wpOp hi hb fun w'' hb' => ⟨hb', wpAnyC_up (hb.trans hb') H⟩
    · have := ready_mono hj hji
      rw [H.1] at this
      cases this
  | succ fuel ih =>
    intro listed a w hfree hr hy H w' hb
    refine ⟨fun h => (by rw [h] at hr; cases hr), fun j hj => ?_⟩
    by_cases hji : j = i
    · subst hji; exact hy.wpOp hi hb fun w'' hb' => ⟨hb', wpAnyC_up (hb.trans hb') H⟩
    · have h1 := (H w' hb).2 j (ready_mono hj hji)
      obtain ⟨hjun, oj, hoj, hall⟩ := mem_ready.1 hj
      have hnot : ∀ e ∈ oj.after, Region.binds md e = true → e.on ≠ i := fun e he hb heq => by
        have h1 := hall e he hb
        have h0 := (mem_ready.1 hr).1
        rw [heq] at h1
        rcases Nat.lt_or_ge i listed.size with h' | h'
        · simp [h'] at h0 h1; rw [h0] at h1; cases h1
        · simp [Array.getElem?_eq_none h'] at h1
      have h2 := wpOp_putB hoj (hfree j oj hoj hji hjun hnot) (fun cs b => hsel i oi cs b hi) (fun cs b => hsel j oj cs b hoj) hQ hy h1
      have hfree' : ∀ k ok, ops[k]? = some ok → k ≠ i → (listed.setIfInBounds j true).getD k true = false →
          (∀ e ∈ ok.after, Region.binds md e = true → e.on ≠ i) → oi.apart ops ok = true := fun k ok hk hki hun hno => by
        refine hfree k ok hk hki ?_ hno
        by_cases hjk : j = k
        · subst hjk; exact hjun
        · rw [getD_set_ne true hjk] at hun; exact hun
      refine wpOp_mono (fun a' w'' h3 => ⟨h3.2.1, ih (listed.setIfInBounds j true) a' w'' hfree' (ready_mono hr (Ne.symm hji)) (h3.1.up (hb.trans h3.2.1)) ?_⟩) h2
      rw [Array.setIfInBounds_comm _ _ hji]
      exact h3.2.2
theorem wp_region_C {id : Nat} {a : Act} {w : World} (hm : P.follows .mixedOrders = true)
    (h : wpAnyC P .any ops Q ops.size (Array.replicate ops.size false) a { w with drawn := w.drawn + 1 }) : (Code.region id ops true).wp P Q a w :=
  wp_region_any hm (wpAny_of_C _ _ _ _ h)
end
/-! A region that asks the tape and makes memory: what looks at memory as it stood at the region's head is taken first. -/
inductive HeldK (c : Bool) (K : Prop) : Prop where
  | mk (h : c = true) (k : K)
def rmE : Env → Nat → Env
  | [], _ => []
  | (k, v) :: r, t => bif Nat.beq k t then rmE r t else (k, v) :: rmE r t
/-- Rows and maps of one's own left out. -/
def restr : Env → Env
  | [] => []
  | (t, .s ..) :: r => rmE (restr r) t
  | (t, .m ..) :: r => rmE (restr r) t
  | x :: r => x :: restr r
def rowless : PV → Bool
  | .s .. | .m .. => false
  | _ => true
def plainO (e : Env) (x : Operand) : Bool :=
  match ev e x with
  | some (.v _) => true
  | _ => false
def rowlessO (e : Env) (x : Operand) : Bool :=
  match ev e x with
  | some x => rowless x
  | none => false
def isIn (i : Nat) : List Nat → Bool
  | [] => false
  | j :: r => Nat.beq j i || isIn i r
def rmBs (b : Bx) : List Nat → Bx
  | [] => b
  | i :: r => rmBs (rmB b i) r
def takeOp (n0 : Nat) (W : List Nat) (e : Env) (op : Op) : Bool :=
  match op with
  | .move x | .assign x | .unOp _ _ x | .convert _ _ x | .field _ x _ | .extract x _ | .fieldAddr _ x _ => rowlessO e x
  | .binOp _ _ x y _ | .indexAddr _ x y | .index _ x y => rowlessO e x && rowlessO e y
  | .pick c x y => rowlessO e c && (rowlessO e x && rowlessO e y)
  | .load _ x =>
    match ev e x with
    | some (.p i _) | some (.q i _) => Nat.blt i n0 && !isIn i W
    | some (.e ..) => true
    | _ => false
  | _ => false
def hOk (n0 : Nat) (W : List Nat) (e : Env) (op : Op) : Bool :=
  match op with
  | .alloc _ | .makeSlice .. | .buildSlice .. => true
  | .box _ x => plainO e x
  | .store _ x y => (match ev e x with | some (.p i _) | some (.q i _) => Nat.ble n0 i || isIn i W | _ => false) && plainO e y
  | .slice _ x _ _ _ => plainO e x
  | .build _ parts => (parts.toList.map Prod.snd).all (noS e)
  | .makeMap .. | .mapUpdate .. | .makeFunc .. => false
  | .call { callee := .value _, args := xs, argTypes := _ } => xs.toList.all (plainO e)
  | .call { callee := .builtin .append, args := xs, argTypes := _ } => (match xs.toList with | [sx, _] => (match ev e sx with | some (.s i _ _ _) => Nat.ble n0 i || isIn i W | some (.v (.slice none _ _)) => true | _ => false) | _ => false)
  | .call { callee := .builtin .len, args := _, argTypes := _ } => true
  | .call { callee := .builtin .max, args := _, argTypes := _ } => true
  | .call { callee := .builtin .min, args := _, argTypes := _ } => true
  | .call _ => false
  | _ => true
/-- Guards. -/
def guarded (N : Nat) (ops : Array Oper) (o : Oper) (e : Env) (b : Bx) (n : Nat) (M : Mem) (act : Env → Prop) (K : Kont) : Prop :=
  match o.guard with
  | none => act e
  | some (j, want) =>
    match guardOf e ops j with
    | some (.v (.bool t)) =>
      match want with
      | true => GuardK t true (act (gset e ops j true)) (skipO N o (gset e ops j false) b n M K)
      | false => GuardK t false (act (gset e ops j false)) (skipO N o (gset e ops j true) b n M K)
    | some (.v (.tuple _)) => skipO N o e b n M K
    | _ => False
def takeK (P : Program) (T : Tab P) (N : Nat) (Ms : Mem) (bs : Bx) (o : Oper) (e : Env) (b : Bx) (n : Nat) (M : Mem) (K : Kont) : Prop :=
  withD o.dst fun d => bif dOk N d then qop P T Ms o (restr e) bs fun u => bif rowless u then K (put e d u) b n M else False else False
def pubH (n0 : Nat) (W : List Nat) (e : Env) (b : Bx) (M : Mem) : List Operand → (Env → Bx → Mem → Prop) → Prop
  | [], K => K e b M
  | x :: r, K =>
    match ev e x with
    | some (.s i _ cap z) =>
      match lookB b i with
      | some cs => bif Nat.ble n0 i || isIn i W then PubK M cs (cap * z) fun ad M' => pubH n0 W (pubE ad i e) (rmB b i) M' r K else False
      | none => False
    | some (.v _) => pubH n0 W e b M r K
    | _ => False
/-- What a temporary holds, laid open to all. -/
def pubD (n0 : Nat) (W : List Nat) (d : Option Tmp) (e : Env) (b : Bx) (M : Mem) (K : Env → Bx → Mem → Prop) : Prop :=
  match d with
  | some t => pubH n0 W e b M [.tmp t] K
  | none => False
/-- An append to a known slice amid drawn operations. -/
def hopA (P : Program) (T : Tab P) (N n0 : Nat) (W : List Nat) (o : Oper) (xs : Array Operand) (ts : Array TypeId) (e : Env) (b : Bx) (n : Nat) (M : Mem) (K : Kont) : Prop :=
  match xs.toList, ts.toList with
  | [sx, xx], [t0, t1] =>
    match prun P (elemInfo t0), prun P (appOk t1), ev e sx with
    | some (z, by_, _, _), some _, some (.v (.slice (some ad) len cap)) =>
      withD o.dst fun d => bif dOk N d then srcK e b M xx z fun k ds => AppX T.wr T.base M ad len cap z k by_ ds (fun M' => K (put e d (.v (.slice (some ad) (len + k) cap))) b n M') fun cs cap' => pubD n0 W d (put e d (.s n (len + k) cap' z)) ((n, cs ++ ds) :: b) M fun e b M => K e b (n + 1) M else False
    | _, _, _ => bif hOk n0 W e o.op then pop P T.off N o e b n M K else False
  | _, _ => bif hOk n0 W e o.op then pop P T.off N o e b n M K else False
def hop (P : Program) (T : Tab P) (N n0 : Nat) (W : List Nat) (v : Bool) (o : Oper) (e : Env) (b : Bx) (n : Nat) (M : Mem) (K : Kont) : Prop :=
  match v, o.op with
  | true, .call { callee := .value x, args := xs, argTypes := _ } =>
    withD o.dst fun d => bif dOk N d then
      pubH n0 W e b M xs.toList fun e b M =>
      match calleeC e x, evL e xs.toList with
      | some (f, []), some l => CallB P T.base M f l.toArray fun u M => K (put e d (.v u)) b n M
      | _, _ => False
    else False
  | true, .call { callee := .builtin .append, args := xs, argTypes := ts } => hopA P T N n0 W o xs ts e b n M K
  | _, _ => bif hOk n0 W e o.op then pop P T.off N o e b n M K else False
/-- Whether an operation reads memory that a call may write. -/
def memLoad (v : Bool) (e : Env) (op : Op) : Bool :=
  match v, op with
  | true, .load _ x => match ev e x with | some (.e ..) => true | _ => false
  | _, _ => false
def firstT (ops : List Oper) (n0 : Nat) (W : List Nat) (v : Bool) (e : Env) : List Nat → Option Nat
  | [] => none
  | i :: r =>
    match ops[i]? with
    | some o => bif takeOp n0 W e o.op && !memLoad v e o.op then some i else firstT ops n0 W v e r
    | none => firstT ops n0 W v e r
def pheld (P : Program) (T : Tab P) (N : Nat) (ops : Array Oper) (Ms : Mem) (bs : Bx) (n0 : Nat) (W : List Nat) (v : Bool) : Nat → List Bool → Env → Bx → Nat → Mem → Kont → Prop
  | 0, done, e, b, n, M, K =>
    match rdyL done 0 ops.toList with
    | [] => K e b n M
    | _ => False
  | fuel + 1, done, e, b, n, M, K =>
    match rdyL done 0 ops.toList with
    | [] => K e b n M
    | l =>
      match firstT ops.toList n0 W v e l with
      | some i =>
        match ops.toList[i]? with
        | some o => HeldK (Region.free .any ops done.toArray i && (Region.ready .any ops done.toArray).contains i) (guarded N ops o e b n M (fun e => takeK P T N Ms bs o e b n M fun e b n M => pheld P T N ops Ms bs n0 W v fuel (done.set i true) e b n M K) fun e b n M => pheld P T N ops Ms bs n0 W v fuel (done.set i true) e b n M K)
        | none => False
      | none => allK (fun i =>
        match ops.toList[i]? with
        | some o => guarded N ops o e b n M (fun e => hop P T N n0 W v o e b n M fun e b n M => pheld P T N ops Ms bs n0 W v fuel (done.set i true) e b n M K) fun e b n M => pheld P T N ops Ms bs n0 W v fuel (done.set i true) e b n M K
        | none => False) l
/-- What leaves all that stood as it was, and yields the same whenever it is done. -/
def quietOp (e : Env) (op : Op) : Bool :=
  match op with
  | .call { callee := .value _, args := xs, argTypes := _ } => xs.toList.all (plainO e)
  | .call { callee := .builtin .len, args := _, argTypes := _ } => true
  | .move _ | .assign _ | .unOp .. | .convert .. | .field .. | .extract .. | .fieldAddr .. | .binOp .. | .indexAddr .. | .index .. | .pick .. | .load .. => true
  | _ => false
def firstQ (ops : List Oper) (e : Env) : List Nat → Option Nat
  | [] => none
  | i :: r =>
    match ops[i]? with
    | some o => bif quietOp e o.op && o.guard.isNone then some i else firstQ ops e r
    | none => firstQ ops e r
/-- What makes a row, or is handed one. -/
def mkOp (P : Program) (N : Nat) (o : Oper) (e : Env) (b : Bx) (n : Nat) (M : Mem) (K : Kont) : Prop :=
  withD o.dst fun d => bif dOk N d then
    match o.op with
    | .buildSlice t len parts =>
      match evP e parts.toList, prun P (elemInfo t) with
      | some ps, some (z, _, Z, _) =>
        match pfillS z (List.replicate len Z).flatten ps with
        | some cs => bif Nat.ble (len * z) 16777216 then nfK cs fun cs => K (put e d (.s n len len z)) ((n, cs) :: b) (n + 1) M else False
        | none => False
      | _, _ => False
    | .call { callee := .value x, args := xs, argTypes := _ } =>
      pubP e b M xs.toList fun e b M =>
      match calleeC e x, capL e xs.toList with
      | some (f, []), some l => CallK P false (fun _ => none) M f l.toArray fun u M => K (put e d (.v u)) b n M
      | _, _ => False
    | _ => False
  else False
/-- A region that makes rows and calls functions that leave what stood as it was: the quiet first, then every order. -/
def pcal (P : Program) (T : Tab P) (N : Nat) (ops : Array Oper) : Nat → List Bool → Env → Bx → Nat → Mem → Kont → Prop
  | 0, done, e, b, n, M, K =>
    match rdyL done 0 ops.toList with
    | [] => K e b n M
    | _ => False
  | fuel + 1, done, e, b, n, M, K =>
    match rdyL done 0 ops.toList with
    | [] => K e b n M
    | l =>
      match firstQ ops.toList e l with
      | some i =>
        match ops.toList[i]? with
        | some o => HeldK (Region.free .any ops done.toArray i && (Region.ready .any ops done.toArray).contains i) (withD o.dst fun d => bif dOk N d then qop P T M o e b fun u => pcal P T N ops fuel (done.set i true) (put e d u) b n M K else False)
        | none => False
      | none => allK (fun i =>
        match ops.toList[i]? with
        | some o =>
          match o.guard with
          | none => mkOp P N o e b n M fun e b n M => pcal P T N ops fuel (done.set i true) e b n M K
          | some _ => False
        | none => False) l
inductive DrawN (lex : Bool) (quiet : Prop) (tail : Nat → Bool) (qt : Nat → Prop) (any : Kont → Prop) (ns : Bool) (held : List Nat → Kont → Prop) (wr : Bool) (heldB : List Nat → Kont → Prop) (cal : Kont → Prop) (n : Nat) (K : Kont) : Prop where
  | q (h : lex = true) (k : quiet)
  | t (m : Nat) (h : tail m = true) (k : qt m)
  | a (ι : Type) (E : ι → Env) (B : ι → Bx) (m : Nat) (U : ι → Mem) (h : any fun e b n' M => ∃ i, Fits (E i) (B i) m e b n' ∧ U i = M) (k : ∀ i, K (E i) (B i) m (U i)) (hm : n ≤ m := by omega)
  | h (ι : Type) (E : ι → Env) (B : ι → Bx) (m : Nat) (U : ι → Mem) (hs : ns = true) (h : held [] fun e b n' M => ∃ i, Fits (E i) (B i) m e b n' ∧ U i = M) (k : ∀ i, K (E i) (B i) m (U i)) (hm : n ≤ m := by omega)
  | w (W : List Nat) (ι : Type) (E : ι → Env) (B : ι → Bx) (m : Nat) (U : ι → Mem) (hs : ns = true) (h : held W fun e b n' M => ∃ i, Fits (E i) (B i) m e b n' ∧ U i = M) (k : ∀ i, K (E i) (B i) m (U i)) (hm : n ≤ m := by omega)
  | c (ι : Type) (E : ι → Env) (B : ι → Bx) (m : Nat) (U : ι → Mem) (hs : ns = true) (h : cal fun e b n' M => ∃ i, Fits (E i) (B i) m e b n' ∧ U i = M) (k : ∀ i, K (E i) (B i) m (U i)) (hm : n ≤ m := by omega)
  | b (W : List Nat) (ι : Type) (E : ι → Env) (B : ι → Bx) (m : Nat) (U : ι → Mem) (hw : wr = true) (hs : ns = true) (h : heldB W fun e b n' M => ∃ i, Fits (E i) (B i) m e b n' ∧ U i = M) (k : ∀ i, K (E i) (B i) m (U i)) (hm : n ≤ m := by omega)
inductive LoopK (e : Env) (b : Bx) (n : Nat) (M : Mem) (body : Env → Bx → Nat → Mem → (Env → Bx → Nat → Mem → Prop) → Prop) : Prop where
  | mk (ι : Type) (E : ι → Env) (B : ι → Bx) (U : ι → Mem) (μ : ι → Nat) (i : ι) (h0 : Fits (E i) (B i) n e b n ∧ U i = M)
      (h : ∀ i, body (E i) (B i) n (U i) fun e' b' n' M' => ∃ i', Fits (E i') (B i') n e' b' n' ∧ U i' = M' ∧ μ i' < μ i)
  | sw (r m : Nat) (ι : Type) (E : ι → Env) (B : ι → Bx) (U : ι → Mem) (μ : ι → Nat) (i : ι) (q : Nat) (h0 : FitsS r q (E i) (B i) m e b ∧ U i = M)
      (h : ∀ i, body (E i) (B i) m (U i) fun e' b' _ M' => ∃ i' q', FitsS r q' (E i') (B i') m e' b' ∧ U i' = M' ∧ μ i' < μ i)
/-- Where branches meet: every way goes on alone, or all go on as one. -/
inductive JoinK (A : Prop) (X : Kont → Prop) (n : Nat) (K : Kont) : Prop where
  | go (h : A)
  | cut (ι : Type) (E : ι → Env) (B : ι → Bx) (m : Nat) (U : ι → Mem) (h : X fun e b n' M => ∃ i, Fits (E i) (B i) m e b n' ∧ U i = M) (k : ∀ i, K (E i) (B i) m (U i)) (hm : n ≤ m := by omega)
def meets : Code → Bool
  | .cond .. | .block .. => true
  | .seq x y => meets y
  | _ => false
def pwp (P : Program) (T : Tab P) (N : Nat) : Code → Env → Bx → Nat → Mem → (Exit → Kont) → Prop
  | .skip, e, b, n, M, Q => Q .normal e b n M
  | .label _, e, b, n, M, Q => Q .normal e b n M
  | .region _ ops false, e, b, n, M, Q => pops P T N ops ops.toList e b n M (Q .normal)
  | .region _ ops true, e, b, n, M, Q =>
    DrawN (Region.lexB .any ops) (qops P T M N ops ops.toList e b fun e => Q .normal e b n M) (Region.lexTailB .any ops) (fun m => qops P T M N ops (ops.toList.take m) e b fun e => pops P T N ops (ops.toList.drop m) e b n M (Q .normal)) (pany P T N ops ops.size (List.replicate ops.size false) e b n M) (Region.noSelect ops) (fun W => pheld P T N ops M (rmBs b W) n W false ops.size (List.replicate ops.size false) e b n M) T.wr (fun W => pheld P T N ops (fun _ => none) (rmBs b W) n W true ops.size (List.replicate ops.size false) e b n M) (pcal P T N ops ops.size (List.replicate ops.size false) e b n M) n (Q .normal)
  | .seq x y, e, b, n, M, Q =>
    match T.cut && meets x with
    | false => pwp P T N x e b n M fun ex e b n M => match ex with | .normal => pwp P T N y e b n M Q | ex => Q ex e b n M
    | true => JoinK (pwp P T N x e b n M fun ex e b n M => match ex with | .normal => pwp P T N y e b n M Q | ex => Q ex e b n M)
        (fun Q2 => pwp P T N x e b n M fun ex e b n M => match ex with | .normal => Q2 e b n M | ex => Q ex e b n M) n fun e b n M => pwp P T N y e b n M Q
  | .cond c x y, e, b, n, M, Q =>
    match evV e c with
    | some (.bool t) => CondK t (pwp P T N x e b n M Q) (pwp P T N y e b n M Q)
    | _ => False
  | .block id c, e, b, n, M, Q => pwp P T N c e b n M fun ex e b n M => match ex with | .exit id' => bif Nat.beq id' id then Q .normal e b n M else Q (.exit id') e b n M | ex => Q ex e b n M
  | .loop c, e, b, n, M, Q => LoopK e b n M fun e b n M K => pwp P T N c e b n M fun ex e' b' n' M' => match ex with | .normal => K e' b' n' M' | ex => Q ex e' b' n' M'
  | .exit id, e, b, n, M, Q => Q (.exit id) e b n M
  | .ret, e, b, n, M, Q => Q .ret e b n M
  | _, _, _, _, _, _ => False
/-- What the machine's walk is owed for a light walk's end. -/
def up (M0 : Mem) (w0 : Base) (N : Nat) (Q : Exit → Kont) : Exit → Act → World → Prop :=
  fun ex a w => ∃ σ e b n M, Rel M0 w0 N σ e b n M a w ∧ Q ex e b n M
section
variable {P : Program} {T : Tab P} {M0 M : Mem} {w0 : Base} {N : Nat}
theorem SubL.look : ∀ {E e : Env}, SubL E e → ∀ {t : Nat} {x : PV}, look E t = some x → look e t = some x
  | [], e, _, t, x, h => by simp [Lw.look] at h
  | (k, v) :: r, e, hs, t, x, h => by
    simp only [Lw.look] at h
    cases hk : Nat.beq k t with
    | true =>
      rw [hk] at h
      simp only [cond_true, Option.some.injEq] at h
      subst h
      rw [← Nat.eq_of_beq_eq_true hk]
      exact hs.1
    | false =>
      rw [hk] at h
      exact SubL.look hs.2 h
theorem SubB.look : ∀ {E e : Bx}, SubB E e → ∀ {t : Nat} {x : List Value}, lookB E t = some x → lookB e t = some x
  | [], e, _, t, x, h => by simp [lookB] at h
  | (k, v) :: r, e, hs, t, x, h => by
    simp only [lookB] at h
    cases hk : Nat.beq k t with
    | true =>
      rw [hk] at h
      simp only [cond_true, Option.some.injEq] at h
      subst h
      rw [← Nat.eq_of_beq_eq_true hk]
      exact hs.1
    | false =>
      rw [hk] at h
      exact SubB.look hs.2 h
theorem ptrsLt_look {n : Nat} : ∀ {E : Env}, ptrsLt n E = true → ∀ {t : Nat} {x : PV}, look E t = some x → ∀ i, idOf x = some i → i < n
  | [], _, t, x, h, i, hi => by simp [look] at h
  | (k, y) :: r, hp, t, x, h, i, hi => by
    simp only [ptrsLt, Bool.and_eq_true] at hp
    simp only [look] at h
    cases hk : Nat.beq k t with
    | true =>
      rw [hk] at h
      simp only [cond_true, Option.some.injEq] at h
      subst h
      have := hp.1
      rw [hi] at this
      exact Nat.blt_eq.mp this
    | false =>
      rw [hk] at h
      exact ptrsLt_look hp.2 h i hi
theorem boxLt_look {n : Nat} : ∀ {E : Bx}, boxLt n E = true → ∀ {i : Nat} {cs : List Value}, lookB E i = some cs → i < n
  | [], _, i, cs, h => by simp [lookB] at h
  | (k, v) :: r, hp, i, cs, h => by
    simp only [boxLt, Bool.and_eq_true] at hp
    simp only [lookB] at h
    cases hk : Nat.beq k i with
    | true => rw [← Nat.eq_of_beq_eq_true hk]; exact Nat.blt_eq.mp hp.1
    | false => rw [hk] at h; exact boxLt_look hp.2 h
theorem Rel.fits {σ : Nat → Nat} {e E : Env} {b B : Bx} {n n' : Nat} {a : Act} {w : World} (h : Rel M0 w0 N σ e b n' M a w) (hf : Fits E B n e b n') (hn : w0.k ≤ n) : Rel M0 w0 N σ E B n M a w :=
  ⟨h.size, fun t x hx => h.tmp t x (hf.env.look hx), fun t x hx => ptrsLt_look hf.ptr hx, h.defers, h.below, h.kn, h.le, h.nw, fun i cs hi => boxLt_look hf.bx hi, fun i cs hi => h.box i cs (hf.box.look hi),
    fun i j ci cj hi hj => h.inj i j ci cj (hf.box.look hi) (hf.box.look hj), fun i cs hi => h.dis i cs (hf.box.look hi), fun t x hx => by
    have := h.sl t x (hf.env.look hx)
    cases x with
    | s i len cap z => intro cs hi; exact this cs (hf.box.look hi)
    | m i l => exact this
    | _ => trivial, h.fix, hn, h.nf⟩
theorem Rel.swap {σ : Nat → Nat} {e E : Env} {b B : Bx} {n m r q : Nat} {a : Act} {w : World} (h : Rel M0 w0 N σ e b n M a w) (hf : FitsS r q E B m e b) (hz : w0.k = 0) : Rel M0 w0 N (fun i => σ (sw r q i)) E B m M a w :=
  ⟨h.size, fun t x hx => (h.tmp t _ (hf.env.look (look_swE hx))).trans (conc_sw σ r q x), fun t x hx => ptrsLt_look hf.ptr hx, h.defers, h.below, h.kn, h.le, h.nw, fun i cs hi => boxLt_look hf.bx hi, fun i cs hi => h.box _ cs (hf.box.look (lookB_swB hi)),
    fun i j ci cj hi hj he => by
      have := congrArg (sw r q) (h.inj _ _ ci cj (hf.box.look (lookB_swB hi)) (hf.box.look (lookB_swB hj)) he)
      rwa [sw_sw, sw_sw] at this, fun i cs hi => h.dis _ cs (hf.box.look (lookB_swB hi)), fun t x hx => by
    have := h.sl t _ (hf.env.look (look_swE hx))
    cases x with
    | s i len cap z => intro cs hi; exact this cs (hf.box.look (lookB_swB hi))
    | m i l => exact this
    | _ => trivial, fun i hi => absurd hi (by omega), by omega, h.nf⟩
theorem rmB_look : ∀ {b : Bx} {i j : Nat} {cs : List Value}, lookB (rmB b i) j = some cs → lookB b j = some cs ∧ j ≠ i
  | [], i, j, cs, h => by simp [rmB, lookB] at h
  | (k, v) :: r, i, j, cs, h => by
    simp only [rmB] at h
    simp only [lookB]
    cases hk : Nat.beq k i with
    | true =>
      rw [hk] at h
      simp only [cond_true] at h
      obtain ⟨h1, h2⟩ := rmB_look h
      have := Nat.eq_of_beq_eq_true hk
      subst this
      rw [show Nat.beq k j = false from by cases hh : Nat.beq k j with | false => rfl | true => exact absurd (Nat.eq_of_beq_eq_true hh).symm h2]
      exact ⟨h1, h2⟩
    | false =>
      rw [hk] at h
      simp only [cond_false, lookB] at h
      cases hkj : Nat.beq k j with
      | true =>
        rw [hkj] at h
        have := Nat.eq_of_beq_eq_true hkj
        subst this
        exact ⟨h, fun he => by subst he; simp at hk⟩
      | false =>
        rw [hkj] at h
        exact rmB_look h
variable {σ : Nat → Nat} {e : Env} {b : Bx} {n : Nat} {a : Act} {w : World}
theorem pubE_look {i g : Nat} (hg : σ i = g) : ∀ {e : Env} {t : Nat} {x : PV}, look (pubE ⟨g, 0, none⟩ i e) t = some x → ∃ y, look e t = some y ∧ conc σ x = conc σ y ∧ (∀ j, idOf x = some j → idOf y = some j) ∧ (x = y ∨ idOf x = none)
  | [], t, x, h => by simp [pubE, look] at h
  | (k, y) :: r, t, x, h => by
    have step : ∀ {y' : PV} {r' : Env}, look ((k, y') :: pubE ⟨g, 0, none⟩ i r) t = some x → conc σ y' = conc σ y → (∀ j, idOf y' = some j → idOf y = some j) → (y' = y ∨ idOf y' = none) → ∃ z, look ((k, y) :: r) t = some z ∧ conc σ x = conc σ z ∧ (∀ j, idOf x = some j → idOf z = some j) ∧ (x = z ∨ idOf x = none) := by
      intro y' r' h h1 h2 h3
      simp only [look] at h ⊢
      cases hk : Nat.beq k t with
      | true =>
        rw [hk] at h
        simp only [cond_true, Option.some.injEq] at h ⊢
        subst h
        exact ⟨y, rfl, h1, h2, h3⟩
      | false =>
        rw [hk] at h
        exact pubE_look hg h
    cases y with
    | s j len cap z =>
      simp only [pubE] at h
      cases hj : Nat.beq j i with
      | true =>
        rw [hj] at h
        have := Nat.eq_of_beq_eq_true hj
        subst this
        exact step (r' := r) h (by simp [conc, hg]) (by intro j hj; cases hj) (.inr rfl)
      | false =>
        rw [hj] at h
        exact step (r' := r) h rfl (fun _ h => h) (.inl rfl)
    | p j o =>
      simp only [pubE] at h
      cases hj : Nat.beq j i with
      | true =>
        rw [hj] at h
        have := Nat.eq_of_beq_eq_true hj
        subst this
        refine step (r' := r) h ?_ (by intro j hj; cases hj) (.inr rfl)
        simp only [conc, hg, Addr.add]
        split
        · rename_i h0; rw [h0]
        · simp
      | false =>
        rw [hj] at h
        exact step (r' := r) h rfl (fun _ h => h) (.inl rfl)
    | q j o =>
      simp only [pubE] at h
      cases hj : Nat.beq j i with
      | true =>
        rw [hj] at h
        have := Nat.eq_of_beq_eq_true hj
        subst this
        refine step (r' := r) h ?_ (by intro j hj; cases hj) (.inr rfl)
        simp only [conc, hg, Addr.add]
        split
        · rename_i h0; rw [h0]
        · simp
      | false =>
        rw [hj] at h
        exact step (r' := r) h rfl (fun _ h => h) (.inl rfl)
    | _ => exact step (r' := r) h rfl (fun _ h => h) (.inl rfl)
theorem Rel.pub (h : Rel M0 w0 N σ e b n M a w) {i : Nat} {cs : List Value} (hi : lookB b i = some cs) :
    ∃ M', Le M M' ∧ (∀ o u, cs[o]? = some u → M' ((⟨σ i, 0, none⟩ : Addr).add o) = some u) ∧ (∀ o, (w.cell? ⟨σ i, o, none⟩).isSome = true → ∃ u, M' ((⟨σ i, 0, none⟩ : Addr).add o) = some u) ∧ (∀ a u, M' a = some u → M a = some u ∨ a.block = σ i) ∧ Rel M0 w0 N σ (pubE ⟨σ i, 0, none⟩ i e) (rmB b i) n M' a w := by
  refine ⟨fun ad => match M ad with | some u => some u | none => if ad.block = σ i then w.cell? ad else none, fun ad u hu => by simp only [hu], fun o u hu => ?_, fun o ho => ?_, fun ad u hu => ?_, ?_⟩
  · have ha : (⟨σ i, 0, none⟩ : Addr).add o = ⟨σ i, o, none⟩ := by
      unfold Addr.add
      split
      · rename_i h0; subst h0; rfl
      · simp
    rw [ha]
    cases hm : M ⟨σ i, o, none⟩ with
    | some u' => exact absurd rfl (h.dis i cs hi _ _ hm)
    | none => simp only [hm, if_true]; exact h.cellB hi hu
  · have ha : (⟨σ i, 0, none⟩ : Addr).add o = ⟨σ i, o, none⟩ := by
      unfold Addr.add
      split
      · rename_i h0; subst h0; rfl
      · simp
    rw [ha]
    obtain ⟨u, hu⟩ := Option.isSome_iff_exists.mp ho
    cases hm : M ⟨σ i, o, none⟩ with
    | some u' => exact ⟨u', by simp only [hm]⟩
    | none => exact ⟨u, by simp only [hm, if_true]; exact hu⟩
  · simp only at hu
    cases hm : M ad with
    | some u' => rw [hm] at hu; exact .inl hu
    | none =>
      rw [hm] at hu
      simp only at hu
      split at hu
      · rename_i hb; exact .inr hb
      · simp at hu
  · have hM' : ∀ ad u, (match M ad with | some u => some u | none => if ad.block = σ i then w.cell? ad else none) = some u → M ad = some u ∨ (ad.block = σ i ∧ w.cell? ad = some u) := by
      intro ad u hu
      cases hm : M ad with
      | some u' => rw [hm] at hu; exact .inl hu
      | none =>
        rw [hm] at hu
        simp only at hu
        split at hu
        · rename_i hb; exact .inr ⟨hb, hu⟩
        · simp at hu
    refine ⟨h.size, fun t x hx => ?_, fun t x hx j hj => ?_, h.defers, h.below, fun ad u hu => ?_, fun ad u hu hx => ?_, fun ad u hu => ?_, fun j cj hj => h.lt j cj (rmB_look hj).1, fun j cj hj => h.box j cj (rmB_look hj).1,
      fun j k cj ck hj hk => h.inj j k cj ck (rmB_look hj).1 (rmB_look hk).1, fun j cj hj ad u hu => ?_, fun t x hx => ?_, h.fix, h.kn0, fun ad u hu hx => ?_⟩
    · obtain ⟨y, hy, hc, _⟩ := pubE_look rfl hx
      rw [hc]; exact h.tmp t y hy
    · obtain ⟨y, hy, _, hid, _⟩ := pubE_look rfl hx
      exact h.elt t y hy j (hid j hj)
    · rcases hM' ad u hu with h1 | h1
      · exact h.kn ad u h1
      · exact h1.2
    · have := h.le ad u hu hx; simp only [this]
    · rcases hM' ad u hu with h1 | h1
      · exact h.nw ad u h1
      · exact .inr (by rw [h1.1]; exact (h.box i cs hi).1)
    · obtain ⟨hj1, hj2⟩ := rmB_look hj
      rcases hM' ad u hu with h1 | h1
      · exact h.dis j cj hj1 ad u h1
      · rw [h1.1]; exact fun he => hj2 (h.inj j i cj cs hj1 hi he.symm)
    · obtain ⟨y, hy, _, _, hxy⟩ := pubE_look rfl hx
      rcases hxy with hxy | hxy
      · subst hxy
        have := h.sl t x hy
        cases x with
        | s j len cap z => intro cj hj; exact this cj (rmB_look hj).1
        | m j l => exact this
        | _ => trivial
      · cases x with
        | s j len cap z => cases hxy
        | m j l => cases hxy
        | _ => trivial
    · rcases hM' ad u hu with h1 | h1
      · exact h.nf ad u h1 hx
      · obtain ⟨_, ty, ex, g⟩ := h.box i cs hi
        exact ⟨_, ty, by rw [h1.1]; exact g⟩
theorem pubO_sound {G : Prop} : ∀ (l : List Operand) {e : Env} {b : Bx} {M : Mem} {K : Env → Bx → Mem → Prop}, Rel M0 w0 N σ e b n M a w → pubO e b M l K → (∀ e b M, Rel M0 w0 N σ e b n M a w → K e b M → G) → G
  | [], e, b, M, K, h, hp, hG => hG e b M h hp
  | x :: r, e, b, M, K, h, hp, hG => by
    unfold pubO at hp
    split at hp
    · split at hp
      · rename_i i len cap z0 hx _ cs hi
        obtain ⟨M', hl, hc, hn, hdm, hR⟩ := h.pub hi
        cases hp with
        | mk hk => exact pubO_sound r hR (hk _ M' hl hc) hG
        | fr hk =>
          have hg : Good w0 σ b w (.s i len cap z0) := by
            cases x with
            | tmp t => exact h.sl t _ hx
            | _ => simp [Lw.ev] at hx
          obtain ⟨_, _, c, ty, g3, g4⟩ := hg cs hi
          exact pubO_sound r hR (hk _ M' hl hc (fun o ho => hn o (by
            rw [← g4] at ho
            simp [World.cell?, g3, ho])) (fun a u hu => h.dis i cs hi a u hu) hdm) hG
      · exact hp.elim
    · exact pubO_sound r h hp hG
    · exact hp.elim
theorem pubB_sound {G : Prop} : ∀ (l : List Operand) {e : Env} {b : Bx} {M : Mem} {K : Env → Bx → Mem → Prop}, Rel M0 w0 N σ e b n M a w → pubB e b M l K → (∀ e b M, Rel M0 w0 N σ e b n M a w → K e b M → G) → G
  | [], e, b, M, K, h, hp, hG => hG e b M h hp
  | x :: r, e, b, M, K, h, hp, hG => by
    unfold pubB at hp
    split at hp
    · split at hp
      · rename_i i len cap z0 hx _ cs hi
        obtain ⟨M', hl, hc, hn, hdm, hR⟩ := h.pub hi
        cases hp with
        | mk hk => exact pubB_sound r hR (hk _ M' hl hc) hG
        | fr hk =>
          have hg : Good w0 σ b w (.s i len cap z0) := by
            cases x with
            | tmp t => exact h.sl t _ hx
            | _ => simp [Lw.ev] at hx
          obtain ⟨_, _, c, ty, g3, g4⟩ := hg cs hi
          exact pubB_sound r hR (hk _ M' hl hc (fun o ho => hn o (by
            rw [← g4] at ho
            simp [World.cell?, g3, ho])) (fun a u hu => h.dis i cs hi a u hu) hdm) hG
      · exact hp.elim
    · exact pubB_sound r h hp hG
theorem pubB_plain {e : Env} {b : Bx} {M : Mem} {K : Env → Bx → Mem → Prop} : ∀ {l : List Operand}, l.all (noS e) = true → pubB e b M l K → K e b M
  | [], _, h => h
  | x :: r, hp, h => by
    simp only [List.all_cons, Bool.and_eq_true] at hp
    unfold pubB at h
    have h1 := hp.1
    unfold noS at h1
    split at h
    · rename_i hx
      rw [hx] at h1
      cases h1
    · exact pubB_plain hp.2 h
theorem pubP_sound {G : Prop} : ∀ (l : List Operand) {e : Env} {b : Bx} {M : Mem} {K : Env → Bx → Mem → Prop}, Rel M0 w0 N σ e b n M a w → pubP e b M l K → (∀ e b M, Rel M0 w0 N σ e b n M a w → K e b M → G) → G
  | [], e, b, M, K, h, hp, hG => hG e b M h hp
  | x :: r, e, b, M, K, h, hp, hG => by
    unfold pubP at hp
    split at hp
    · split at hp
      · rename_i i len cap z0 hx _ cs hi
        obtain ⟨M', hl, hc, hn, hdm, hR⟩ := h.pub hi
        cases hp with
        | mk hk => exact pubP_sound r hR (hk _ M' hl hc) hG
        | fr hk =>
          have hg : Good w0 σ b w (.s i len cap z0) := by
            cases x with
            | tmp t => exact h.sl t _ hx
            | _ => simp [Lw.ev] at hx
          obtain ⟨_, _, c, ty, g3, g4⟩ := hg cs hi
          exact pubP_sound r hR (hk _ M' hl hc (fun o ho => hn o (by
            rw [← g4] at ho
            simp [World.cell?, g3, ho])) (fun a u hu => h.dis i cs hi a u hu) hdm) hG
      · exact hp.elim
    · split at hp
      · rename_i i hx _ cs hi
        obtain ⟨M', hl, hc, hn, hdm, hR⟩ := h.pub hi
        cases hp with
        | mk hk => exact pubP_sound r hR (hk _ M' hl hc) hG
        | fr hk =>
          exact pubP_sound r hR (hk _ M' hl hc (fun o ho => hn o (by
            rw [h.cellB hi (List.getElem?_eq_getElem ho)]
            rfl)) (fun a u hu => h.dis i cs hi a u hu) hdm) hG
      · exact hp.elim
    · exact pubP_sound r h hp hG
    · exact pubP_sound r h hp hG
    · exact hp.elim
theorem pubC_sound {G : Prop} : ∀ (l : List Operand) {e : Env} {b : Bx} {M : Mem} {K : Env → Bx → Mem → Prop}, Rel M0 w0 N σ e b n M a w → pubC e b M l K → (∀ e b M, Rel M0 w0 N σ e b n M a w → K e b M → G) → G
  | [], e, b, M, K, h, hp, hG => hG e b M h hp
  | x :: r, e, b, M, K, h, hp, hG => by
    unfold pubC at hp
    split at hp
    · split at hp
      · rename_i i hx _ cs hi
        obtain ⟨M', hl, hc, hn, hdm, hR⟩ := h.pub hi
        cases hp with
        | mk hk => exact pubC_sound r hR (hk _ M' hl hc) hG
        | fr hk =>
          exact pubC_sound r hR (hk _ M' hl hc (fun o ho => hn o (by
            rw [h.cellB hi (List.getElem?_eq_getElem ho)]
            rfl)) (fun a u hu => h.dis i cs hi a u hu) hdm) hG
      · exact hp.elim
    · exact pubC_sound r h hp hG
    · exact pubC_sound r h hp hG
    · exact hp.elim
theorem capV_conc {x : PV} {u : Value} (h : capV x = some u) : conc σ x = u := by
  unfold capV at h
  split at h <;> first | (simp only [Option.some.injEq] at h; subst h; rfl) | (cases h; done) | skip
theorem Rel.capL (h : Rel M0 w0 N σ e b n M a w) : ∀ {xs : List Operand} {l : List Value}, capL e xs = some l → xs.map a.eval = l
  | [], l, hx => by simp only [Lw.capL, Option.some.injEq] at hx; subst hx; rfl
  | x :: r, l, hx => by
    simp only [Lw.capL] at hx
    split at hx
    · rename_i y hy
      split at hx
      · rename_i u l' h1 h2
        simp only [Option.some.injEq] at hx
        subst hx
        simp [h.ev hy, capV_conc h1, Rel.capL h h2]
      · simp at hx
    · simp at hx
theorem Rel.grow0 (h : Rel M0 w0 N σ e b n M a w) (cs : List Value) (t : TypeId) :
    Rel M0 w0 N (fun i => if i = n then w.heap.size else σ i) e ((n, cs) :: b) (n + 1) M a (w.alloc (.cells cs.toArray t)) := by
  have hs : (w.alloc (.cells cs.toArray t)).heap.size = w.heap.size + 1 := by show (w.heap.push _).size = _; simp
  have hbb : Below w.heap.size w (w.alloc (.cells cs.toArray t)) := (Below.refl _ _).alloc (Nat.le_refl _) _
  refine ⟨h.size, fun t x hx => ?_, fun t x hx i hi => Nat.lt_succ_of_lt (h.elt t x hx i hi), h.defers, h.below.alloc _, h.kn.below hbb, h.le, h.nw, fun i cs' hi => ?_, fun i cs' hi => ?_, fun i j ci cj hi hj hij => ?_, fun i cs' hi ad u hu => ?_, fun t' x hx => ?_, fun i hi => by
    show (if i = n then w.heap.size else σ i) = _
    rw [if_neg (by have := h.kn0; omega)]
    exact h.fix i hi, Nat.le_succ_of_le h.kn0, fun ad u hu hx => (h.nf ad u hu hx).below hbb⟩
  · rw [h.tmp t x hx]
    have hid := h.elt t x hx
    cases x with
    | v u => rfl
    | e ad o => rfl
    | p i o => simp only [conc]; rw [if_neg (by have := hid i rfl; omega)]
    | s i l c z => simp only [conc]; rw [if_neg (by have := hid i rfl; omega)]
    | q i k => simp only [conc]; rw [if_neg (by have := hid i rfl; omega)]
    | m i l => simp only [conc]; rw [if_neg (by have := hid i rfl; omega)]
  · simp only [lookB] at hi
    cases hk : Nat.beq n i with
    | true => have := Nat.eq_of_beq_eq_true hk; omega
    | false => rw [hk] at hi; exact Nat.lt_succ_of_lt (h.lt i cs' hi)
  · simp only [lookB] at hi
    cases hk : Nat.beq n i with
    | true =>
      rw [hk] at hi
      simp only [cond_true, Option.some.injEq] at hi
      have := Nat.eq_of_beq_eq_true hk
      subst this
      subst hi
      refine ⟨by rw [if_pos rfl]; exact .inl h.below.size, t, [], ?_⟩
      rw [if_pos rfl]
      show (w.heap.push _)[w.heap.size]? = _
      simp
    | false =>
      rw [hk] at hi
      obtain ⟨g2, ty, ex, g3⟩ := h.box i cs' hi
      have hne : i ≠ n := by have := h.lt i cs' hi; omega
      refine ⟨by rw [if_neg hne]; exact g2, ty, ex, ?_⟩
      rw [if_neg hne, Below.heap_alloc w _ _ (h.hsz hi)]
      exact g3
  · simp only [lookB] at hi hj
    cases hk : Nat.beq n i with
    | true =>
      have e1 := Nat.eq_of_beq_eq_true hk
      cases hk2 : Nat.beq n j with
      | true => rw [← e1, ← Nat.eq_of_beq_eq_true hk2]
      | false =>
        rw [hk2] at hj
        have := h.hsz hj
        have := h.lt j cj hj
        rw [if_pos e1.symm, if_neg (by omega)] at hij
        omega
    | false =>
      rw [hk] at hi
      have := h.hsz hi
      have := h.lt i ci hi
      cases hk2 : Nat.beq n j with
      | true =>
        have e2 := Nat.eq_of_beq_eq_true hk2
        rw [if_neg (by omega), if_pos e2.symm] at hij
        omega
      | false =>
        rw [hk2] at hj
        have := h.lt j cj hj
        rw [if_neg (by omega), if_neg (by omega)] at hij
        exact h.inj i j ci cj hi hj hij
  · simp only [lookB] at hi
    cases hk : Nat.beq n i with
    | true =>
      have e1 := Nat.eq_of_beq_eq_true hk
      rw [if_pos e1.symm]
      have := block_lt_of_cell (h.kn ad u hu)
      omega
    | false =>
      rw [hk] at hi
      have := h.lt i cs' hi
      rw [if_neg (by omega)]
      exact h.dis i cs' hi ad u hu
  · have hg := h.sl t' x hx
    have hid := h.elt t' x hx
    cases x with
    | s i len cap z =>
      intro cs' hi
      have hin := hid i rfl
      simp only [lookB] at hi
      rw [show Nat.beq n i = false from by cases hh : Nat.beq n i with | false => rfl | true => have := Nat.eq_of_beq_eq_true hh; omega] at hi
      obtain ⟨g1, g2, c, ty, g3, g4⟩ := hg cs' hi
      refine ⟨g1, g2, c, ty, ?_, g4⟩
      show (w.alloc (Obj.cells cs.toArray t)).heap[if i = n then w.heap.size else σ i]? = _
      rw [if_neg (by omega), Below.heap_alloc w _ _ (h.hsz hi)]
      exact g3
    | m i l =>
      have hin := hid i rfl
      obtain ⟨g1, g2⟩ := hg
      show w0.own (if i = n then w.heap.size else σ i) ∧ MapAt _ (if i = n then w.heap.size else σ i) l
      rw [if_neg (by omega)]
      exact ⟨g1, g2.of (Below.heap_alloc w _ _ g2.lt)⟩
    | _ => trivial
theorem Rel.growO (h : Rel M0 w0 N σ e b n M a w) (o : Obj) :
    Rel M0 w0 N (fun i => if i = n then w.heap.size else σ i) e b (n + 1) M a (w.alloc o) := by
  have hbb : Below w.heap.size w (w.alloc o) := (Below.refl _ _).alloc (Nat.le_refl _) _
  refine ⟨h.size, fun t x hx => ?_, fun t x hx i hi => Nat.lt_succ_of_lt (h.elt t x hx i hi), h.defers, h.below.alloc _, h.kn.below hbb, h.le, h.nw, fun i cs' hi => Nat.lt_succ_of_lt (h.lt i cs' hi), fun i cs' hi => ?_, fun i j ci cj hi hj hij => ?_, fun i cs' hi ad u hu => ?_, fun t' x hx => ?_, fun i hi => by
    show (if i = n then w.heap.size else σ i) = _
    rw [if_neg (by have := h.kn0; omega)]
    exact h.fix i hi, Nat.le_succ_of_le h.kn0, fun ad u hu hx => (h.nf ad u hu hx).below hbb⟩
  · rw [h.tmp t x hx]
    have hid := h.elt t x hx
    cases x with
    | v u => rfl
    | e ad o => rfl
    | p i o => simp only [conc]; rw [if_neg (by have := hid i rfl; omega)]
    | s i l c z => simp only [conc]; rw [if_neg (by have := hid i rfl; omega)]
    | q i k => simp only [conc]; rw [if_neg (by have := hid i rfl; omega)]
    | m i l => simp only [conc]; rw [if_neg (by have := hid i rfl; omega)]
  · obtain ⟨g2, ty, ex, g3⟩ := h.box i cs' hi
    have hne : i ≠ n := by have := h.lt i cs' hi; omega
    refine ⟨by rw [if_neg hne]; exact g2, ty, ex, ?_⟩
    rw [if_neg hne, Below.heap_alloc w _ _ (h.hsz hi)]
    exact g3
  · have := h.lt i ci hi
    have := h.lt j cj hj
    rw [if_neg (by omega), if_neg (by omega)] at hij
    exact h.inj i j ci cj hi hj hij
  · have := h.lt i cs' hi
    rw [if_neg (by omega)]
    exact h.dis i cs' hi ad u hu
  · have hg := h.sl t' x hx
    have hid := h.elt t' x hx
    cases x with
    | s i len cap z =>
      intro cs' hi
      have hin := hid i rfl
      obtain ⟨g1, g2, c, ty, g3, g4⟩ := hg cs' hi
      refine ⟨g1, g2, c, ty, ?_, g4⟩
      show (w.alloc o).heap[if i = n then w.heap.size else σ i]? = _
      rw [if_neg (by omega), Below.heap_alloc w _ _ (h.hsz hi)]
      exact g3
    | m i l =>
      have hin := hid i rfl
      obtain ⟨g1, g2⟩ := hg
      show w0.own (if i = n then w.heap.size else σ i) ∧ MapAt _ (if i = n then w.heap.size else σ i) l
      rw [if_neg (by omega)]
      exact ⟨g1, g2.of (Below.heap_alloc w _ _ g2.lt)⟩
    | _ => trivial
theorem Rel.grow (h : Rel M0 w0 N σ e b n M a w) {d : Option Tmp} (hd : dOk N d = true) (cs : List Value) (t : TypeId) :
    Rel M0 w0 N (fun i => if i = n then w.heap.size else σ i) (Lw.put e d (.p n 0)) ((n, cs) :: b) (n + 1) M (a.put d (.pointer (some ⟨w.heap.size, 0, none⟩))) (w.alloc (.cells cs.toArray t)) ∧
    ∀ x, (∀ i, idOf x = some i → i < n + 1) → Good w0 (fun i => if i = n then w.heap.size else σ i) ((n, cs) :: b) (w.alloc (.cells cs.toArray t)) x → Rel M0 w0 N (fun i => if i = n then w.heap.size else σ i) (Lw.put e d x) ((n, cs) :: b) (n + 1) M (a.put d (conc (fun i => if i = n then w.heap.size else σ i) x)) (w.alloc (.cells cs.toArray t)) := by
  have hs : (w.alloc (.cells cs.toArray t)).heap.size = w.heap.size + 1 := by show (w.heap.push _).size = _; simp
  have hbb : Below w.heap.size w (w.alloc (.cells cs.toArray t)) := (Below.refl _ _).alloc (Nat.le_refl _) _
  have h1 := h.grow0 cs t
  refine ⟨?_, fun x hx hg => h1.put hd hx hg⟩
  have h2 := h1.put (x := .p n 0) hd (fun i hx => by cases hx; omega) trivial
  simpa [conc] using h2
theorem Rel.store1 (h : Rel M0 w0 N σ e b n M a w) {i q : Nat} {cs : List Value} {v : Value} (hi : lookB b i = some cs) (hq : q < cs.length) : Rel M0 w0 N σ e ((i, cs.set q v) :: b) n M a (w.setCell ⟨σ i, q, none⟩ v) := by
  obtain ⟨g2, ty, ex, g3⟩ := h.box i cs hi
  have hs : (w.setCell ⟨σ i, q, none⟩ v).heap.size = w.heap.size := by simp [World.setCell]
  have hl : ∀ {j cj}, lookB ((i, cs.set q v) :: b) j = some cj → ∃ c, lookB b j = some c := by
    intro j cj hj
    simp only [lookB] at hj
    cases hk : Nat.beq i j with
    | true => rw [← Nat.eq_of_beq_eq_true hk]; exact ⟨_, hi⟩
    | false => rw [hk] at hj; exact ⟨_, hj⟩
  refine ⟨h.size, h.tmp, h.elt, h.defers, h.below.setCell (p := ⟨σ i, q, none⟩) g2 v, fun ad u hu => ?_, h.le, h.nw, fun j cj hj => ?_, fun j cs' hj => ?_, fun j k cj ck hj hk => ?_, fun j cj hj ad u hu => ?_, fun t' x hx => ?_, h.fix, h.kn0, fun ad u hu hx => (h.nf ad u hu hx).setCell _ _⟩
  · have hne := h.dis i cs hi ad u hu
    have := h.kn ad u hu
    rw [World.cell?_of_block (w := w) (Below.heap_setCell w _ _ _ hne)]
    exact this
  · obtain ⟨c, hc⟩ := hl hj; exact h.lt j c hc
  · simp only [lookB] at hj
    cases hk : Nat.beq i j with
    | true =>
      rw [hk] at hj
      simp only [cond_true, Option.some.injEq] at hj
      have := Nat.eq_of_beq_eq_true hk
      subst this
      subst hj
      refine ⟨g2, ty, ex, ?_⟩
      simp [World.setCell, Array.getElem?_modify, g3]
      rw [List.set_append_left _ _ hq]
    | false =>
      rw [hk] at hj
      obtain ⟨k2, ty', ex', k3⟩ := h.box j cs' hj
      refine ⟨k2, ty', ex', ?_⟩
      rw [Below.heap_setCell]
      · exact k3
      · intro he
        have := h.inj j i cs' cs hj hi he
        subst this
        simp at hk
  · obtain ⟨c, hc⟩ := hl hj
    obtain ⟨c', hc'⟩ := hl hk
    exact h.inj j k c c' hc hc'
  · obtain ⟨c, hc⟩ := hl hj; exact h.dis j c hc ad u hu
  · have hg := h.sl t' x hx
    cases x with
    | s j len cap z =>
      intro cs' hj
      simp only [lookB] at hj
      cases hk : Nat.beq i j with
      | true =>
        rw [hk] at hj
        simp only [cond_true, Option.some.injEq] at hj
        have := Nat.eq_of_beq_eq_true hk
        subst this
        subst hj
        obtain ⟨k1, k2, c, ty', k3, k4⟩ := hg cs hi
        refine ⟨by simpa using k1, k2, c.setIfInBounds q v, ty', ?_, by simpa using k4⟩
        simp [World.setCell, Array.getElem?_modify, k3]
      | false =>
        rw [hk] at hj
        obtain ⟨k1, k2, c, ty', k3, k4⟩ := hg cs' hj
        refine ⟨k1, k2, c, ty', ?_, k4⟩
        rw [Below.heap_setCell]
        · exact k3
        · intro he
          have := h.inj j i cs' cs hj hi he
          subst this
          simp at hk
    | m j l =>
      obtain ⟨_, _, _, hbx⟩ := h.box i cs hi
      exact ⟨hg.1, hg.2.of (by rw [Below.heap_setCell]; exact hg.2.ne hbx)⟩
    | _ => trivial
theorem store_run {w : World} {ad : Addr} {v u : Value} (h1 : one1 v = true) (hc : w.cell? ad = some u) (hf : w.frozen? ad = false) : (store ad v).run P w = .ok () (w.setCell ad v) := by
  unfold store
  cases v <;> first | (simp [one1] at h1; done) | simp [Sem.run, hc, hf]
theorem Rel.storeK (h : Rel M0 w0 N σ e b n M a w) {ad : Addr} {v : Value} (hu : (M ad).isSome = true) (hb : ∀ u, M0 ad = some u → w0.X ad.block) :
    w.frozen? ad = false ∧ ∃ M', M' ad = some v ∧ (∀ a, a ≠ ad → M' a = M a) ∧ Rel M0 w0 N σ e b n M' a (w.setCell ad v) := by
  obtain ⟨u, hu⟩ := Option.isSome_iff_exists.mp hu
  have hx : M0 ad = none ∨ w0.X ad.block := by
    cases h0 : M0 ad with
    | none => exact .inl rfl
    | some u0 => exact .inr (hb u0 h0)
  have hown : w0.own ad.block := by
    rcases hx with h0 | h0
    · rcases h.nw ad u hu with h1 | h1
      · rw [h0] at h1; cases h1
      · exact h1
    · exact .inr h0
  have hk := h.kn ad u hu
  obtain ⟨c, ty, hc⟩ := h.nf ad u hu hx
  have hsp : ad.spot = none := by
    simp only [World.cell?, hc] at hk
    split at hk
    · cases hk
    · rename_i h1; cases hs : ad.spot with
      | none => rfl
      | some _ => rw [hs] at h1; simp at h1
  have hoff : ad.off < c.size := by
    simp only [World.cell?, hc, hsp] at hk
    rcases Nat.lt_or_ge ad.off c.size with h1 | h1
    · exact h1
    · simp [Array.getElem?_eq_none h1] at hk
  have hne : ∀ {i cs}, lookB b i = some cs → σ i ≠ ad.block := fun hi he => h.dis _ _ hi ad u hu he.symm
  refine ⟨by simp [World.frozen?, hc], fun a => if a = ad then some v else M a, by simp, fun a ha => by simp [ha], ?_⟩
  refine ⟨h.size, h.tmp, h.elt, h.defers, h.below.setCell hown v, fun a' u' hu' => ?_, fun a' u' h0 hX => ?_, fun a' u' hu' => ?_, h.lt, fun i cs hi => ?_, h.inj, fun i cs hi a' u' hu' => ?_, fun t x hx' => ?_, h.fix, h.kn0, fun a' u' hu' hX => ?_⟩
  · by_cases he : a' = ad
    · subst he
      simp only [if_true, Option.some.injEq] at hu'
      subst hu'
      simp [World.cell?, World.setCell, Array.getElem?_modify, hc, hsp, hoff]
    · simp only [if_neg he] at hu'
      have hk' := h.kn a' u' hu'
      by_cases hbk : a'.block = ad.block
      · have hsp' : a'.spot = none := by
          simp only [World.cell?, hbk, hc] at hk'
          split at hk'
          · cases hk'
          · rename_i h1; cases hs : a'.spot with
            | none => rfl
            | some _ => rw [hs] at h1; simp at h1
        have hof : ad.off ≠ a'.off := by
          intro ho
          apply he
          cases a'; cases ad; simp_all
        simp only [World.cell?, hbk, hc, hsp'] at hk'
        simp only [World.cell?, World.setCell, hbk, Array.getElem?_modify, if_true, hc, Option.map_some, hsp, hsp']
        simpa [Array.getElem?_setIfInBounds_ne hof] using hk'
      · rw [World.cell?_of_block (w := w) (Below.heap_setCell w _ _ _ hbk)]
        exact hk'
  · by_cases he : a' = ad
    · subst he; exact absurd (hb u' h0) hX
    · simp only [if_neg he]; exact h.le a' u' h0 hX
  · by_cases he : a' = ad
    · subst he; exact .inr hown
    · simp only [if_neg he] at hu'; exact h.nw a' u' hu'
  · obtain ⟨k2, ty', ex', k3⟩ := h.box i cs hi
    exact ⟨k2, ty', ex', by rw [Below.heap_setCell _ _ _ _ (hne hi)]; exact k3⟩
  · by_cases he : a' = ad
    · subst he; exact fun h1 => hne hi h1.symm
    · simp only [if_neg he] at hu'; exact h.dis i cs hi a' u' hu'
  · have hg := h.sl t x hx'
    cases x with
    | s j len cap z =>
      intro cs' hj
      obtain ⟨k1, k2, c, ty', k3, k4⟩ := hg cs' hj
      exact ⟨k1, k2, c, ty', by rw [Below.heap_setCell _ _ _ _ (hne hj)]; exact k3, k4⟩
    | m j l => exact ⟨hg.1, hg.2.of (by rw [Below.heap_setCell]; exact hg.2.ne hc)⟩
    | _ => trivial
  · refine Pl.setCell ?_ _ _
    by_cases he : a' = ad
    · subst he; exact ⟨c, ty, hc⟩
    · simp only [if_neg he] at hu'; exact h.nf a' u' hu' hX
theorem Rel.storeL : ∀ (vs : List Value) {w : World} {M : Mem} {ad : Addr} {j : Nat}, Rel M0 w0 N σ e b n M a w → allOne vs = true → (∀ o, o < vs.length → (M (ad.add (j + o))).isSome = true) → (∀ o, o < vs.length → ∀ u, M0 (ad.add (j + o)) = some u → w0.X (ad.add (j + o)).block) →
    ∃ w' M', (Go.storeCells ad vs j).run P w = .ok () w' ∧ (∀ o u, vs[o]? = some u → M' (ad.add (j + o)) = some u) ∧ (∀ a, (∀ o, o < vs.length → a ≠ ad.add (j + o)) → M' a = M a) ∧ Rel M0 w0 N σ e b n M' a w'
  | [], w, M, ad, j, h, h1, hs, hb => ⟨w, M, rfl, fun o u hu => by simp at hu, fun _ _ => rfl, h⟩
  | v :: r, w, M, ad, j, h, h1, hs, hb => by
    simp only [allOne, Bool.and_eq_true] at h1
    have hs0 := hs 0 (by simp)
    rw [Nat.add_zero] at hs0
    obtain ⟨hf, M1, g1, g2, hR⟩ := h.storeK (v := v) hs0 (fun u hu => by have := hb 0 (by simp) u; rw [Nat.add_zero] at this; exact this hu)
    obtain ⟨u0, hu0⟩ := Option.isSome_iff_exists.mp hs0
    have hne : ∀ o, ad.add (j + 1 + o) ≠ ad.add j := fun o he => by
      unfold Addr.add at he
      split at he <;> split at he <;> first | omega | (have := congrArg Addr.off he; simp only at this; omega)
    obtain ⟨w', M2, hr, k1, k2, hR2⟩ := Rel.storeL r (ad := ad) (j := j + 1) hR h1.2 (fun o ho => by
      rw [g2 _ (hne o), show j + 1 + o = j + (o + 1) by omega]
      exact hs (o + 1) (by simpa using ho)) (fun o ho u hu => by
      rw [show j + 1 + o = j + (o + 1) by omega] at hu ⊢
      exact hb (o + 1) (by simpa using ho) u hu)
    refine ⟨w', M2, ?_, fun o u hu => ?_, fun a' ha' => ?_, hR2⟩
    · simp only [Go.storeCells, Sem.run_bind, store_run h1.1 (h.kn _ _ hu0) hf, Result.andThen_ok]
      exact hr
    · cases o with
      | zero =>
        simp only [List.getElem?_cons_zero, Option.some.injEq] at hu
        subst hu
        rw [Nat.add_zero, k2 _ (fun o _ he => hne o he.symm)]
        exact g1
      | succ o =>
        simp only [List.getElem?_cons_succ] at hu
        have := k1 o u hu
        rw [show j + (o + 1) = j + 1 + o by omega]
        exact this
    · rw [k2 a' (fun o ho => by
        have := ha' (o + 1) (by simpa using ho)
        rw [show j + 1 + o = j + (o + 1) by omega]
        exact this)]
      exact g2 a' (by have := ha' 0 (by simp); rwa [Nat.add_zero] at this)
/-- Behind a call that writes the memory Mx and makes new rows. -/
theorem Rel.callG (h : Rel M0 w0 N σ e b n M a w) {Mx M1 : Mem} {w' : World} (hs : Le Mx M) (hx : ∀ ad u u0, Mx ad = some u → M0 ad = some u0 → w0.X ad.block) (hd : ∀ ad u ad' u', Mx ad = some u → M ad' = some u' → Mx ad' = none → ad.block ≠ ad'.block)
    (hk : Know M1 w') (hdom : ∀ ad u, M1 ad = some u → (∃ a u0, Mx a = some u0 ∧ a.block = ad.block) ∨ w.heap.size ≤ ad.block) (hpl : ∀ ad u, M1 ad = some u → Pl w' ad.block) (hb : BelowM Mx w w') :
    ∃ M', Le M1 M' ∧ (∀ ad u, Mx ad = none → M ad = some u → M' ad = some u) ∧ (∀ ad u, M' ad = some u → M1 ad = some u ∨ (Mx ad = none ∧ M ad = some u)) ∧ (∀ ad u, M1 ad = some u → (∃ a u0, Mx a = some u0 ∧ a.block = ad.block) ∨ ∀ a u', M a = some u' → a.block ≠ ad.block) ∧ Rel M0 w0 N σ e b n M' a w' := by
  have hor : ∀ {ad u}, Mx ad = some u → M0 ad = none ∨ w0.X ad.block := by
    intro ad u hu
    cases h0 : M0 ad with
    | none => exact .inl rfl
    | some u0 => exact .inr (hx ad u u0 hu h0)
  have hown : ∀ {ad u}, Mx ad = some u → w0.own ad.block := by
    intro ad u hu
    rcases hor hu with h0 | h0
    · rcases h.nw ad u (hs ad u hu) with h1 | h1
      · rw [h0] at h1; cases h1
      · exact h1
    · exact .inr h0
  have hblk : ∀ {g}, g < w.heap.size → (∀ ad u, Mx ad = some u → ad.block ≠ g) → w'.heap[g]? = w.heap[g]? := fun hg hn => hb.block _ hg hn
  have hbox : ∀ {i cs}, lookB b i = some cs → w'.heap[σ i]? = w.heap[σ i]? := fun hi => hblk (h.hsz hi) fun ad u hu => h.dis _ _ hi ad u (hs ad u hu)
  have hM' : ∀ ad u, (match M1 ad with | some u => some u | none => match Mx ad with | some _ => none | none => M ad) = some u → M1 ad = some u ∨ (M1 ad = none ∧ Mx ad = none ∧ M ad = some u) := by
    intro ad u hu
    cases hm : M1 ad with
    | some u' => rw [hm] at hu; simp only [Option.some.injEq] at hu; subst hu; exact .inl rfl
    | none =>
      rw [hm] at hu
      simp only at hu
      cases hmx : Mx ad with
      | some u' => rw [hmx] at hu; cases hu
      | none => rw [hmx] at hu; exact .inr ⟨rfl, rfl, hu⟩
  have hfr : ∀ ad u, M1 ad = some u → (∃ a u0, Mx a = some u0 ∧ a.block = ad.block) ∨ ∀ a' u', M a' = some u' → a'.block ≠ ad.block := fun ad u hu => by
    rcases hdom ad u hu with h1 | h1
    · exact .inl h1
    · refine .inr fun a' u' hu' => ?_
      have := block_lt_of_cell (h.kn a' u' hu')
      omega
  have hno : ∀ {ad u u'}, M1 ad = some u → Mx ad = none → M ad = some u' → False := fun {ad u u'} hu hn hu' => by
    rcases hfr ad u hu with ⟨a, u0, h1, h2⟩ | h1
    · exact hd a u0 ad u' h1 hu' hn h2
    · exact h1 ad u' hu' rfl
  refine ⟨fun ad => match M1 ad with | some u => some u | none => match Mx ad with | some _ => none | none => M ad, fun ad u hu => by simp only [hu], fun ad u hn hu => ?_, fun ad u hu => ?_, hfr, ?_⟩
  · cases hm : M1 ad with
    | some u' => exact (hno hm hn hu).elim
    | none => simp only [hm, hn]; exact hu
  · rcases hM' ad u hu with h1 | ⟨_, h1, h2⟩
    · exact .inl h1
    · exact .inr ⟨h1, h2⟩
  refine ⟨h.size, h.tmp, h.elt, h.defers, ⟨hb.os.trans h.below.os, hb.tape.trans h.below.tape, hb.output.trans h.below.output, Nat.le_trans h.below.size hb.size, fun k hk1 hX => ?_⟩, fun ad u hu => ?_, fun ad u h0 hX => ?_, fun ad u hu => ?_, h.lt, fun i cs hi => ?_, h.inj, fun i cs hi ad u hu => ?_, fun t x hx' => ?_, h.fix, h.kn0, fun ad u hu hX => ?_⟩
  · rw [hblk (Nat.lt_of_lt_of_le hk1 h.below.size) fun ad u hu he => by
      rcases hown hu with h1 | h1
      · omega
      · exact hX (he ▸ h1)]
    exact h.below.block k hk1 hX
  · rcases hM' ad u hu with h1 | ⟨_, h1, h2⟩
    · exact hk ad u h1
    · have hc := h.kn ad u h2
      rw [World.cell?_of_block (hblk (block_lt_of_cell hc) fun ad' u' hu' => hd ad' u' ad u hu' h2 h1)]
      exact hc
  · have hn : Mx ad = none := by
      cases hm : Mx ad with
      | none => rfl
      | some u' => exact absurd (hx ad u' u hm h0) hX
    have hMu := h.le ad u h0 hX
    cases hm : M1 ad with
    | some u' => exact (hno hm hn hMu).elim
    | none => simp only [hm, hn]; exact hMu
  · rcases hM' ad u hu with h1 | ⟨_, _, h2⟩
    · rcases hdom ad u h1 with ⟨a', u0, h3, h4⟩ | h3
      · exact .inr (h4 ▸ hown h3)
      · exact .inr (.inl (Nat.le_trans h.below.size h3))
    · exact h.nw ad u h2
  · obtain ⟨k2, ty', ex', k3⟩ := h.box i cs hi
    exact ⟨k2, ty', ex', by rw [hbox hi]; exact k3⟩
  · rcases hM' ad u hu with h1 | ⟨_, _, h2⟩
    · rcases hdom ad u h1 with ⟨a', u0, h3, h4⟩ | h3
      · rw [← h4]; exact h.dis i cs hi a' u0 (hs a' u0 h3)
      · have := h.hsz hi; omega
    · exact h.dis i cs hi ad u h2
  · have hg := h.sl t x hx'
    cases x with
    | s j len cap z =>
      intro cs' hj
      obtain ⟨k1, k2, c, ty', k3, k4⟩ := hg cs' hj
      exact ⟨k1, k2, c, ty', by rw [hbox hj]; exact k3, k4⟩
    | m j l =>
      refine ⟨hg.1, hg.2.of (hblk hg.2.lt fun ad u hu he => ?_)⟩
      obtain ⟨c, ty, hc⟩ := h.nf ad u (hs ad u hu) (hor hu)
      exact hg.2.ne hc he.symm
    | _ => trivial
  · rcases hM' ad u hu with h1 | ⟨_, h1, h2⟩
    · exact hpl ad u h1
    · exact (h.nf ad u h2 hX).of (hblk (h.nf ad u h2 hX).lt fun ad' u' hu' => hd ad' u' ad u hu' h2 h1)
/-- Behind a call that writes the memory Mx. -/
theorem Rel.callW (h : Rel M0 w0 N σ e b n M a w) {Mx M1 : Mem} {w' : World} (hs : Le Mx M) (hx : ∀ ad u u0, Mx ad = some u → M0 ad = some u0 → w0.X ad.block) (hd : ∀ ad u ad' u', Mx ad = some u → M ad' = some u' → Mx ad' = none → ad.block ≠ ad'.block)
    (hk : Know M1 w') (hdom : ∀ ad u, M1 ad = some u → ∃ u0, Mx ad = some u0) (hpl : ∀ ad u, M1 ad = some u → Pl w' ad.block) (hb : BelowM Mx w w') :
    ∃ M', Le M1 M' ∧ (∀ ad, Mx ad = none → M' ad = M ad) ∧ Rel M0 w0 N σ e b n M' a w' := by
  have hor : ∀ {ad u}, Mx ad = some u → M0 ad = none ∨ w0.X ad.block := by
    intro ad u hu
    cases h0 : M0 ad with
    | none => exact .inl rfl
    | some u0 => exact .inr (hx ad u u0 hu h0)
  have hown : ∀ {ad u}, Mx ad = some u → w0.own ad.block := by
    intro ad u hu
    rcases hor hu with h0 | h0
    · rcases h.nw ad u (hs ad u hu) with h1 | h1
      · rw [h0] at h1; cases h1
      · exact h1
    · exact .inr h0
  have hblk : ∀ {g}, g < w.heap.size → (∀ ad u, Mx ad = some u → ad.block ≠ g) → w'.heap[g]? = w.heap[g]? := fun hg hn => hb.block _ hg hn
  have hbox : ∀ {i cs}, lookB b i = some cs → w'.heap[σ i]? = w.heap[σ i]? := fun hi => hblk (h.hsz hi) fun ad u hu => h.dis _ _ hi ad u (hs ad u hu)
  have hM' : ∀ ad u, (match M1 ad with | some u => some u | none => match Mx ad with | some _ => none | none => M ad) = some u → (M1 ad = some u ∧ ∃ u0, Mx ad = some u0) ∨ (Mx ad = none ∧ M ad = some u) := by
    intro ad u hu
    cases hm : M1 ad with
    | some u' => rw [hm] at hu; simp only [Option.some.injEq] at hu; subst hu; exact .inl ⟨rfl, hdom ad _ hm⟩
    | none =>
      rw [hm] at hu
      simp only at hu
      cases hmx : Mx ad with
      | some u' => rw [hmx] at hu; cases hu
      | none => rw [hmx] at hu; exact .inr ⟨rfl, hu⟩
  refine ⟨fun ad => match M1 ad with | some u => some u | none => match Mx ad with | some _ => none | none => M ad, fun ad u hu => by simp only [hu], fun ad hn => ?_, ?_⟩
  · cases hm : M1 ad with
    | some u' => obtain ⟨u0, h0⟩ := hdom ad _ hm; rw [hn] at h0; cases h0
    | none => simp only [hm, hn]
  refine ⟨h.size, h.tmp, h.elt, h.defers, ⟨hb.os.trans h.below.os, hb.tape.trans h.below.tape, hb.output.trans h.below.output, Nat.le_trans h.below.size hb.size, fun k hk1 hX => ?_⟩, fun ad u hu => ?_, fun ad u h0 hX => ?_, fun ad u hu => ?_, h.lt, fun i cs hi => ?_, h.inj, fun i cs hi ad u hu => ?_, fun t x hx' => ?_, h.fix, h.kn0, fun ad u hu hX => ?_⟩
  · rw [hblk (Nat.lt_of_lt_of_le hk1 h.below.size) fun ad u hu he => by
      rcases hown hu with h1 | h1
      · omega
      · exact hX (he ▸ h1)]
    exact h.below.block k hk1 hX
  · rcases hM' ad u hu with ⟨h1, _⟩ | ⟨h1, h2⟩
    · exact hk ad u h1
    · have hc := h.kn ad u h2
      rw [World.cell?_of_block (hblk (block_lt_of_cell hc) fun ad' u' hu' => hd ad' u' ad u hu' h2 h1)]
      exact hc
  · have hn : Mx ad = none := by
      cases hm : Mx ad with
      | none => rfl
      | some u' => exact absurd (hx ad u' u hm h0) hX
    have hn1 : M1 ad = none := by
      cases hm : M1 ad with
      | none => rfl
      | some u' => obtain ⟨u0, h1⟩ := hdom ad _ hm; rw [hn] at h1; cases h1
    simp only [hn1, hn]
    exact h.le ad u h0 hX
  · rcases hM' ad u hu with ⟨_, u0, h1⟩ | ⟨_, h2⟩
    · exact .inr (hown h1)
    · exact h.nw ad u h2
  · obtain ⟨k2, ty', ex', k3⟩ := h.box i cs hi
    exact ⟨k2, ty', ex', by rw [hbox hi]; exact k3⟩
  · rcases hM' ad u hu with ⟨_, u0, h1⟩ | ⟨_, h2⟩
    · exact h.dis i cs hi ad u0 (hs ad u0 h1)
    · exact h.dis i cs hi ad u h2
  · have hg := h.sl t x hx'
    cases x with
    | s j len cap z =>
      intro cs' hj
      obtain ⟨k1, k2, c, ty', k3, k4⟩ := hg cs' hj
      exact ⟨k1, k2, c, ty', by rw [hbox hj]; exact k3, k4⟩
    | m j l =>
      refine ⟨hg.1, hg.2.of (hblk hg.2.lt fun ad u hu he => ?_)⟩
      obtain ⟨c, ty, hc⟩ := h.nf ad u (hs ad u hu) (hor hu)
      exact hg.2.ne hc he.symm
    | _ => trivial
  · rcases hM' ad u hu with ⟨h1, _⟩ | ⟨h1, h2⟩
    · exact hpl ad u h1
    · exact (h.nf ad u h2 hX).of (hblk (h.nf ad u h2 hX).lt fun ad' u' hu' => hd ad' u' ad u hu' h2 h1)
theorem Rel.bx (h : Rel M0 w0 N σ e b n M a w) {b' : Bx} (hb : ∀ i, lookB b' i = lookB b i) : Rel M0 w0 N σ e b' n M a w :=
  ⟨h.size, h.tmp, h.elt, h.defers, h.below, h.kn, h.le, h.nw, fun i cs hi => h.lt i cs (by rw [← hb]; exact hi), fun i cs hi => h.box i cs (by rw [← hb]; exact hi), fun i j ci cj hi hj => h.inj i j ci cj (by rw [← hb]; exact hi) (by rw [← hb]; exact hj), fun i cs hi => h.dis i cs (by rw [← hb]; exact hi), fun t x hx => by
    have := h.sl t x hx
    cases x with
    | s i len cap z => intro cs hi; exact this cs (by rw [← hb]; exact hi)
    | m i l => exact this
    | _ => trivial, h.fix, h.kn0, h.nf⟩
theorem Rel.storeCells : ∀ (vs : List Value) {b : Bx} {w : World} {i q j : Nat} {cs : List Value}, Rel M0 w0 N σ e b n M a w → lookB b i = some cs → allOne vs = true → q + j + vs.length ≤ cs.length →
    ∃ w', (storeCells ⟨σ i, q, none⟩ vs j).run P w = .ok () w' ∧ Rel M0 w0 N σ e ((i, setAt cs (q + j) vs) :: b) n M a w'
  | [], b, w, i, q, j, cs, h, hi, h1, hl => ⟨w, rfl, h.bx fun k => by
      simp only [setAt, lookB]
      cases hik : Nat.beq i k with
      | true => rw [← Nat.eq_of_beq_eq_true hik, hi]; rfl
      | false => rfl⟩
  | v :: r, b, w, i, q, j, cs, h, hi, h1, hl => by
    simp only [allOne, Bool.and_eq_true] at h1
    simp only [List.length_cons] at hl
    have ha : (⟨σ i, q, none⟩ : Addr).add j = ⟨σ i, q + j, none⟩ := by
      unfold Addr.add
      split
      · rename_i h0; subst h0; rfl
      · rfl
    obtain ⟨g2, ty, ex, g3⟩ := h.box i cs hi
    have hlt : q + j < cs.length := by omega
    have hc : w.cell? ⟨σ i, q + j, none⟩ = some cs[q + j] := h.cellB hi (List.getElem?_eq_getElem hlt)
    have hf : w.frozen? ⟨σ i, q + j, none⟩ = false := by simp [World.frozen?, g3]
    have h2 := h.store1 (q := q + j) (v := v) hi hlt
    obtain ⟨w', hr, hR⟩ := Rel.storeCells r (i := i) (q := q) (j := j + 1) (cs := cs.set (q + j) v) h2 (by simp [lookB]) h1.2 (by simp; omega)
    refine ⟨w', ?_, hR.bx fun k => ?_⟩
    · simp only [Go.storeCells, Sem.run_bind, ha, store_run h1.1 hc hf, Result.andThen_ok]
      exact hr
    · simp only [setAt, lookB, Nat.add_assoc]
      cases hik : Nat.beq i k <;> rfl
end
theorem range_fill {z : Nat} {Z : List Value} (hz : Z.length = z) : ∀ m : Nat, (List.range (m * z)).map (fun i => Z[i % z]!) = (List.replicate m Z).flatten
  | 0 => by simp
  | m + 1 => by
    have ih := range_fill hz m
    have h1 : (List.range z).map (fun j => Z[j % z]!) = Z := by
      apply List.ext_getElem
      · simp [hz]
      · intro i h1 h2
        simp only [List.length_map, List.length_range] at h1
        simp [Nat.mod_eq_of_lt h1, hz, h1]
    rw [Nat.add_mul, Nat.one_mul, List.range_add, List.map_append, ih, List.replicate_succ', List.flatten_append]
    congr 1
    rw [List.map_map]
    simp only [List.flatten_cons, List.flatten_nil, List.append_nil]
    refine Eq.trans ?_ h1
    apply List.map_congr_left
    intro j hj
    simp only [Function.comp]
    congr 1
    rw [Nat.mul_comm, Nat.mul_add_mod]
theorem elemInfo_out {P : Program} {t z by_ elem : Nat} {Z : List Value} (h : prun P (elemInfo t) = some (z, by_, Z, elem)) :
    P.underlying t = some (.slice elem) ∧ ∃ i v, prun P (typeInfo elem) = some i ∧ prun P (zeroValue elem) = some v ∧ prun P (sizeOf elem) = some z ∧ i.bytes = by_ ∧ v.cells.toList = Z ∧ Z.length = z ∧ z ≠ 0 := by
  unfold elemInfo at h
  rw [prun_bind] at h
  cases hu : prun P (underlying t) with
  | none => rw [hu] at h; simp at h
  | some d =>
    rw [hu] at h
    simp only [Option.bind_some] at h
    cases d <;> first | (simp [stuck, prun] at h; done) | skip
    rename_i el
    simp only [prun_bind] at h
    cases hi : prun P (typeInfo el) with
    | none => rw [hi] at h; simp at h
    | some i =>
      cases hz : prun P (zeroValue el) with
      | none => rw [hi, hz] at h; simp at h
      | some v =>
        rw [hi, hz] at h
        simp only [Option.bind_some] at h
        split at h
        · simp [stuck, prun] at h
        · rename_i hne
          split at h
          · rename_i hs
            simp only [prun_pure, Option.some.injEq, Prod.mk.injEq] at h
            obtain ⟨rfl, rfl, rfl, rfl⟩ := h
            refine ⟨underlying_of hu, i, v, hi, hz, ?_, rfl, rfl, by simpa using hs, hne⟩
            unfold sizeOf
            rw [prun_bind, hi]
            rfl
          · simp [stuck, prun] at h
theorem makeSlice_run {P : Program} {t z by_ elem : Nat} {Z : List Value} (h : prun P (elemInfo t) = some (z, by_, Z, elem)) {k k' : IntKind} {len : Int} (h1 : 0 ≤ len) (h2 : len ≤ 9223372036854775807) (h3 : (by_ : Int) * len ≤ 281474976710656) (w : World) :
    (Instr.makeSlice t (.int k len) (.int k' len)).run P w = .ok (.slice (some ⟨w.heap.size, 0, none⟩) len.toNat len.toNat) (w.alloc (.cells (List.replicate len.toNat Z).flatten.toArray elem)) := by
  obtain ⟨hu, i, v, hi, hv, hsz, hb, hZ, hl, hz⟩ := elemInfo_out h
  have hw : IntKind.i64.wrap len = len := by
    unfold IntKind.wrap IntKind.bits IntKind.signed
    simp only [Bool.true_and]
    have : len % (2 ^ 64 : Int) = len := by omega
    simp only [this]
    rw [if_neg (by simp; omega)]
  unfold Instr.makeSlice
  simp only [Sem.run_bind, prun_run (prun_underlying hu) w, Result.andThen_ok, asInt, asIntOf, Sem.run_pure, prun_run hi w, hw, hb]
  rw [if_neg (by simp; omega)]
  have hroom : (askRoom (len.toNat * by_)).run P w = .ok () w := by
    unfold askRoom
    split <;> rfl
  simp only [Sem.run_bind, hroom, Result.andThen_ok, prun_run hsz w]
  have hcells : ∀ (zero : Array Value), (if len.toNat * z = 0 then zero = #[] else zero = v.cells) → (Array.range (len.toNat * z)).map (fun i => zero[i % zero.size]!) = (List.replicate len.toNat Z).flatten.toArray := by
    intro zero hzero
    apply Array.toList_inj.mp
    rw [← range_fill hl, Array.toList_map, Array.toList_range]
    split at hzero
    · rename_i h0; rw [h0]; rfl
    · subst hzero
      rw [← hZ]
      apply List.map_congr_left
      intro i hi
      rw [show v.cells.size = z by rw [← hl, ← hZ]; simp]
      simp [getElem!_def]
  by_cases h0 : len.toNat * z = 0
  · rw [if_pos h0]
    simp only [Sem.run_bind, Sem.run_pure, Result.andThen_ok]
    rw [hcells #[] (by rw [if_pos h0])]
    rfl
  · rw [if_neg h0]
    simp only [Sem.run_bind, prun_run hv w, Sem.run_pure, Result.andThen_ok]
    rw [hcells v.cells (by rw [if_neg h0])]
    rfl
theorem zero_cells {v : Value} {z m : Nat} {Z : List Value} (hZ : v.cells.toList = Z) (hl : Z.length = z) (zero : Array Value) (hzero : if m * z = 0 then zero = #[] else zero = v.cells) : (Array.range (m * z)).map (fun i => zero[i % zero.size]!) = (List.replicate m Z).flatten.toArray := by
  apply Array.toList_inj.mp
  rw [← range_fill hl, Array.toList_map, Array.toList_range]
  split at hzero
  · rename_i h0; rw [h0]; rfl
  · subst hzero
    rw [← hZ]
    apply List.map_congr_left
    intro i hi
    rw [show v.cells.size = z by rw [← hl, ← hZ]; simp]
    simp [getElem!_def]
theorem buildSlice_run {P : Program} {t z by_ elem len : Nat} {Z cs : List Value} {ps : List (Nat × Value)} (h : prun P (elemInfo t) = some (z, by_, Z, elem)) (hf : pfillS z (List.replicate len Z).flatten ps = some cs) (hlen : len * z ≤ 16777216) (w : World) :
    (Instr.buildSlice t len ps.toArray).run P w = .ok (.slice (some ⟨w.heap.size, 0, none⟩) len len) (w.alloc (.cells cs.toArray elem)) := by
  obtain ⟨hu, i, v, hi, hv, hsz, hb, hZ, hl, hz⟩ := elemInfo_out h
  unfold Instr.buildSlice
  simp only [Sem.run_bind, prun_run (prun_underlying hu) w, Result.andThen_ok, prun_run hsz w]
  rw [if_neg (by simp; omega)]
  by_cases h0 : len * z = 0
  · rw [if_pos h0]
    simp only [Sem.run_bind, Sem.run_pure, Result.andThen_ok]
    rw [zero_cells hZ hl #[] (by rw [if_pos h0]), (pfillS_run ps _ _ hf).1]
    rfl
  · rw [if_neg h0]
    simp only [Sem.run_bind, prun_run hv w, Sem.run_pure, Result.andThen_ok]
    rw [zero_cells hZ hl v.cells (by rw [if_neg h0]), (pfillS_run ps _ _ hf).1]
    rfl
theorem flatten_len {z : Nat} {Z : List Value} (hz : Z.length = z) (m : Nat) : (List.replicate m Z).flatten.length = m * z := by
  rw [← range_fill hz m]; simp
section
variable {P : Program} {T : Tab P} {M0 M : Mem} {w0 : Base} {N : Nat} {σ : Nat → Nat} {e : Env} {b : Bx} {n : Nat} {a : Act} {w : World}
theorem good_world (h : Rel M0 w0 N σ e b n M a w) {w' : World} (hb : Below w.heap.size w w') {x : PV} (hg : Good w0 σ b w x) : Good w0 σ b w' x := by
  cases x with
  | s i len cap z =>
    intro cs hi
    obtain ⟨g1, g2, c, ty, g3, g4⟩ := hg cs hi
    exact ⟨g1, g2, c, ty, by rw [hb.block _ (h.hsz hi)]; exact g3, g4⟩
  | m i l => exact ⟨hg.1, hg.2.of (hb.block _ hg.2.lt)⟩
  | _ => trivial
theorem wp_of_quietAt {o : Oper} {u : Value} {K' : Act → World → Prop} {Q' : Exit → Act → World → Prop} (hq : ∀ w', Below w.heap.size w w' → o.quietAt P a (fun w'' => Below w.heap.size w w'') w' u)
    (h : ∀ w', Below w.heap.size w w' → K' (a.put o.dst u) w') : o.wp P a w K' Q' :=
  Oper.wp_of_quiet (C := fun w' => Below w.heap.size w w') (K := fun a' => a' = a.put o.dst u) (Below.refl _ _) (fun a' w' hw' ha => by subst ha; exact h w' hw') ⟨u, hq, rfl⟩
end
end Go.Proofs.Ytmmgknhefobloaa.Lw
