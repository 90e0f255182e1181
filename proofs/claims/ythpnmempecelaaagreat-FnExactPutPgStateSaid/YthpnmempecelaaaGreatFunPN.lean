/- Numbers one behind the other in a strings.Builder: putNumbers. -/
import Derived.WalkKit
import Derived.Test.YthpnmempecelaaaGreatFunPB
import Derived.Test.YthpnmempecelaaaGreatFunPV
import Derived.Test.YthpnmempecelaaaGreatLwTy
namespace Go.Proofs.YthpnmempecelaaaGreat.Bld
open Go Go.RowKit Go.Proofs Go.Proofs.YthpnmempecelaaaGreat.Lw Go.Proofs.YthpnmempecelaaaGreat.Hlp
set_option linter.unusedVariables false
set_option linter.unusedSimpArgs false
set_option maxRecDepth 100000
set_option maxHeartbeats 4000000
def bytesN (l : List Int) : List UInt8 := (l.map fun n => (varS n).data.toList).flatten
theorem bytesN_step {l : List Int} {k : Nat} (h : k < l.length) : bytesN (l.take (k + 1)) = bytesN (l.take k) ++ (varS l[k]).data.toList := by
  unfold bytesN
  rw [List.take_succ_eq_append_getElem h, List.map_append, List.flatten_append]
  simp only [List.map_cons, List.map_nil, List.flatten_cons, List.flatten_nil, List.append_nil]
theorem bytesN_len (l : List Int) : (bytesN l).length ≤ 9 * l.length := by
  induction l with
  | nil => simp [bytesN]
  | cons x r ih =>
    have := varS_size x
    unfold bytesN at ih ⊢
    simp only [List.map_cons, List.flatten_cons, List.length_append, List.length_cons]
    have e : (varS x).data.toList.length = (varS x).size := Array.length_toList
    omega
theorem strCells_eq (s : ByteArray) : Lib.strCells s = Lib.byteCells s.data.toList := rfl
theorem byteCells_app (x y : List UInt8) : Lib.byteCells (x ++ y) = Lib.byteCells x ++ Lib.byteCells y := by simp [Lib.byteCells]
theorem putVar_c (x : Int) (w : World) : Calls Tryz.prog 93 #[.int .i64 x] w fun e w' => e = .returned (.string (varS x)) ∧ Below w.heap.size w w' := (putVar_a (fun _ => none) x).2 w (fun ad u h => by cases h)
theorem bld_below {B b : Nat} {bs : List Value} {w w' : World} (h : Lib.IsBuilder 130 5 B b bs w) (hb : Below w.heap.size w w') : Lib.IsBuilder 130 5 B b bs w' := by
  have key : ∀ {p}, Lib.BuilderAt 130 5 B b p bs w → Lib.BuilderAt 130 5 B b p bs w' := by
    intro p ⟨hB, v, hbk, hown, hne⟩
    have hlt : b < w.heap.size := by
      rcases Nat.lt_or_ge b w.heap.size with h' | h'
      · exact h'
      · simp [Array.getElem?_eq_none h'] at hbk
    refine ⟨hB, v, by rw [hb.block _ hlt]; exact hbk, ?_, hne⟩
    refine hown.kept (row := none) ⟨hb.os, hb.tape, hb.output, hb.size, fun k hk _ => hb.block k hk⟩ ?_
    cases hv : v.ownBlock with
    | none => exact .inl rfl
    | some k => exact .inr (by simp)
  exact h.imp key key
theorem bld_new (w : World) : Lib.IsBuilder 130 5 w.heap.size w.heap.size (Lib.byteCells []) (w.alloc (Obj.cells #[Value.pointer none, Value.slice none 0 0] 130)) :=
  .inl ⟨Nat.le_refl _, .slice none 0 0, by show (w.heap.push _)[w.heap.size]? = _; simp, World.ownsRow_nil _ _ _ _, by simp [Value.ownBlock]⟩
theorem putNumbers_c (ns : List Int) (ad : Addr) (c : Nat) (w : World) (hA : ∀ j x, ns[j]? = some x → w.cell? (ad.add j) = some (.int .i64 x)) (hn : ns.length ≤ 100) :
    Calls Tryz.prog 58 #[.slice (some ad) ns.length c] w fun e w' => e = .returned (.string ⟨(bytesN ns).toArray⟩) ∧ Below w.heap.size w w' := by
  go_enter Tryz.func58, Tryz.ntmps58
  go_wp2
  go_loopw [8] (fun i wr => ∃ k : Nat, k ≤ ns.length ∧ i = .int .i64 k ∧ Lib.IsBuilder 130 5 w.heap.size w.heap.size (Lib.byteCells (bytesN (ns.take k))) wr ∧ Below w.heap.size w wr) (fun i _ => ns.length - (intOf i).toNat)
  case atStart => exact ⟨0, Nat.zero_le _, rfl, bld_new w, (Below.refl _ _).alloc (Nat.le_refl _) _⟩
  case round =>
    obtain ⟨k, hk, rfl, hbl, hnx⟩ := hrel
    have hln := bytesN_len (ns.take k)
    rw [List.length_take, Nat.min_eq_left hk] at hln
    by_cases hlt : k < ns.length
    · have hx := hA k ns[k] (List.getElem?_eq_getElem hlt)
      have hlb := block_lt_of_cell hx
      have hc : wr.cell? (ad.add k) = some (.int .i64 ns[k]) := (hnx.cell hlb).trans hx
      have hv9 := varS_size ns[k]
      go_wp2_with (go_at_call 93; refine (putVar_c ns[k] _).mono ?_)
      rintro e w1 ⟨rfl, hb1⟩
      have hW := write_c w.heap.size w.heap.size _ (varS ns[k]) w1 (bld_below hbl hb1) (by rw [Lib.byteCells_length]; omega) (by have := hnx.size; have := hb1.size; omega)
      rw [strCells_eq, ← byteCells_app, ← bytesN_step hlt] at hW
      go_wp2_with (go_at_call 92; refine hW.mono ?_)
      rintro e w2 ⟨rfl, hbl2, hb2⟩
      go_wp2
      go_roundw
      case rel => exact ⟨k + 1, hlt, rfl, .inr hbl2, (hnx.trans (hb1.mono hnx.size)).trans hb2⟩
      case measure => simp [intOf]; omega
    · have hke : k = ns.length := by omega
      subst hke
      rw [List.take_length] at hbl
      have hS := Tryz.Builder_String_any w.heap.size w.heap.size (bytesN ns) wr hbl hnx.size
      go_wp2_with (go_at_call 94; refine hS.mono ?_)
      rintro e w1 ⟨rfl, hb1⟩
      go_wp2
      go_ret
      exact ⟨rfl, hnx.trans hb1⟩
def numS (ns : List Int) : ByteArray := ⟨(bytesN ns).toArray⟩
theorem putNumbers_a (M : Mem) (ns : List Int) (ad : Addr) (c : Nat) (hA : ∀ j x, ns[j]? = some x → M (ad.add j) = some (.int .i64 x)) (hn : ns.length ≤ 100) : Ans Tryz.prog M 58 #[.slice (some ad) ns.length c] (.string (numS ns)) :=
  ⟨by kernel_rfl, fun w hw => putNumbers_c ns ad c w (fun j x hx => hw _ _ (hA j x hx)) hn⟩
def bytesT {α : Type} (g : α → ByteArray) (l : List α) : List UInt8 := (l.map fun x => (g x).data.toList).flatten
theorem bytesT_step {α : Type} {g : α → ByteArray} {l : List α} {k : Nat} (h : k < l.length) : bytesT g (l.take (k + 1)) = bytesT g (l.take k) ++ (g l[k]).data.toList := by
  unfold bytesT
  rw [List.take_succ_eq_append_getElem h, List.map_append, List.flatten_append]
  simp only [List.map_cons, List.map_nil, List.flatten_cons, List.flatten_nil, List.append_nil]
theorem bytesT_len {α : Type} {g : α → ByteArray} {m : Nat} : ∀ {l : List α}, (∀ x ∈ l, (g x).size ≤ m) → (bytesT g l).length ≤ m * l.length
  | [], _ => by simp [bytesT]
  | x :: r, h => by
    have h1 := h x (List.mem_cons_self ..)
    have h2 := bytesT_len (l := r) (fun y hy => h y (List.mem_cons_of_mem _ hy))
    unfold bytesT at h2 ⊢
    simp only [List.map_cons, List.flatten_cons, List.length_append, List.length_cons, Nat.mul_succ]
    have e : (g x).data.toList.length = (g x).size := Array.length_toList
    omega
theorem add0' (x : Addr) : x.add 0 = x := by simp [Addr.add]
theorem addJ (x : Addr) (j : Nat) : x.add (j + 1) = ⟨x.block, x.off + (j + 1), none⟩ := by
  unfold Addr.add
  simp
theorem alloc_below {w w3 : World} {o : Obj} (h : Below (w.alloc o).heap.size (w.alloc o) w3) : Below w.heap.size w w3 := by
  have hb := (Below.refl w.heap.size w).alloc (Nat.le_refl _) o
  exact hb.trans (h.mono hb.size)
theorem putHeadS_c (l : List GHead) (g : GHead → ByteArray) (ad : Addr) (c : Nat) (w : World) (hA : ∀ k x, l[k]? = some x → ∀ j u, ([.string x.Name, .int .i64 x.Ver.Epoch, .int .i64 x.Ver.Seq, .int .i64 x.Size, .int .i64 x.Sum] : List Value)[j]? = some u → w.cell? ((ad.add (k * 5)).add j) = some u) (hn : l.length ≤ 1048576) (hg : ∀ x ∈ l, (g x).size ≤ 4194304)
    (hf : ∀ x ∈ l, ∀ w, Calls Tryz.prog 60 #[.agg (List.toArray [.string x.Name, .int .i64 x.Ver.Epoch, .int .i64 x.Ver.Seq, .int .i64 x.Size, .int .i64 x.Sum])] w fun e w' => e = .returned (.string (g x)) ∧ Below w.heap.size w w') :
    Calls Tryz.prog 59 #[.slice (some ad) l.length c, .func (.func 60) #[] #[]] w fun e w' => e = .returned (.string ⟨((varS (l.length : Int)).data.toList ++ bytesT g l).toArray⟩) ∧ Below w.heap.size w w' := by
  go_enter Tryz.func59, Tryz.ntmps59
  go_wp2_with (go_at_call 93; refine (putVar_c (l.length : Int) _).mono ?_)
  rintro e w1 ⟨rfl, hb1⟩
  have hv9 := varS_size (l.length : Int)
  have hbs := (Below.refl w.heap.size w).alloc (Nat.le_refl _) (Obj.cells #[Value.pointer none, Value.slice none 0 0] 130)
  have hb0 := hbs.trans (hb1.mono hbs.size)
  have hW := write_c w.heap.size w.heap.size _ (varS (l.length : Int)) w1 (bld_below (bld_new w) hb1) (by rw [Lib.byteCells_length]; simp; omega) hb0.size
  rw [strCells_eq, ← byteCells_app, List.nil_append] at hW
  go_wp2_with (go_at_call 92; refine hW.mono ?_)
  rintro e w2 ⟨rfl, hbl2, hb2⟩
  go_wp2
  go_loopw [14] (fun i wr => ∃ k : Nat, k ≤ l.length ∧ i = .int .i64 k ∧ Lib.IsBuilder 130 5 w.heap.size w.heap.size (Lib.byteCells ((varS (l.length : Int)).data.toList ++ bytesT g (l.take k))) wr ∧ Below w.heap.size w wr) (fun i _ => l.length - (intOf i).toNat)
  case atStart => exact ⟨0, Nat.zero_le _, rfl, by simp only [List.take_zero, bytesT, List.map_nil, List.flatten_nil, List.append_nil]; exact .inr hbl2, hb0.trans hb2⟩
  case round =>
    obtain ⟨k, hk, rfl, hbl, hnx⟩ := hrel
    have hln := bytesT_len (l := l.take k) (g := g) (m := 4194304) (fun x hx => hg x (List.mem_of_mem_take hx))
    rw [List.length_take, Nat.min_eq_left hk] at hln
    have e9 : (varS (l.length : Int)).data.toList.length = (varS (l.length : Int)).size := Array.length_toList
    by_cases hlt : k < l.length
    · have hx := hA k l[k] (List.getElem?_eq_getElem hlt)
      have hgk := hg l[k] (List.getElem_mem hlt)
      have hcell : ∀ j u, ([.string l[k].Name, .int .i64 l[k].Ver.Epoch, .int .i64 l[k].Ver.Seq, .int .i64 l[k].Size, .int .i64 l[k].Sum] : List Value)[j]? = some u → wr.cell? ((ad.add (k * 5)).add j) = some u := fun j u hu => (hnx.cell (block_lt_of_cell (hx j u hu))).trans (hx j u hu)
      have hC := hf l[k] (List.getElem_mem hlt)
      have c0 := hcell 0 _ rfl
      rw [add0'] at c0
      have c1 := hcell 1 _ rfl
      rw [addJ] at c1
      have c2 := hcell 2 _ rfl
      rw [addJ] at c2
      have c3 := hcell 3 _ rfl
      rw [addJ] at c3
      have c4 := hcell 4 _ rfl
      rw [addJ] at c4
      go_wp2_with (go_at_call 60; refine (hC _).mono ?_)
      rintro e w3 ⟨rfl, hb3⟩
      have hb4 := alloc_below hb3
      have hW := write_c w.heap.size w.heap.size _ (g l[k]) w3 (bld_below hbl hb4) (by rw [Lib.byteCells_length, List.length_append]; omega) (Nat.le_trans hnx.size hb4.size)
      rw [strCells_eq, ← byteCells_app, List.append_assoc, ← bytesT_step hlt] at hW
      go_wp2_with (go_at_call 92; refine hW.mono ?_)
      rintro e w4 ⟨rfl, hbl4, hb5⟩
      go_wp2
      go_roundw
      case rel => exact ⟨k + 1, hlt, rfl, .inr hbl4, (hnx.trans (hb4.mono hnx.size)).trans hb5⟩
      case measure => simp [intOf]; omega
    · have hke : k = l.length := by omega
      subst hke
      rw [List.take_length] at hbl
      have hS := Tryz.Builder_String_any w.heap.size w.heap.size _ wr hbl hnx.size
      go_wp2_with (go_at_call 94; refine hS.mono ?_)
      rintro e w3 ⟨rfl, hb3⟩
      go_wp2
      go_ret
      exact ⟨rfl, hnx.trans hb3⟩
theorem putLastS_c (l : List GLast) (g : GLast → ByteArray) (ad : Addr) (c : Nat) (w : World) (hA : ∀ k x, l[k]? = some x → ∀ j u, ([.int .i64 x.Client, .int .i64 x.No, .int .i64 x.Ver.Epoch, .int .i64 x.Ver.Seq] : List Value)[j]? = some u → w.cell? ((ad.add (k * 4)).add j) = some u) (hn : l.length ≤ 1048576) (hg : ∀ x ∈ l, (g x).size ≤ 4194304)
    (hf : ∀ x ∈ l, ∀ w, Calls Tryz.prog 62 #[.agg (List.toArray [.int .i64 x.Client, .int .i64 x.No, .int .i64 x.Ver.Epoch, .int .i64 x.Ver.Seq])] w fun e w' => e = .returned (.string (g x)) ∧ Below w.heap.size w w') :
    Calls Tryz.prog 61 #[.slice (some ad) l.length c, .func (.func 62) #[] #[]] w fun e w' => e = .returned (.string ⟨((varS (l.length : Int)).data.toList ++ bytesT g l).toArray⟩) ∧ Below w.heap.size w w' := by
  go_enter Tryz.func61, Tryz.ntmps61
  go_wp2_with (go_at_call 93; refine (putVar_c (l.length : Int) _).mono ?_)
  rintro e w1 ⟨rfl, hb1⟩
  have hv9 := varS_size (l.length : Int)
  have hbs := (Below.refl w.heap.size w).alloc (Nat.le_refl _) (Obj.cells #[Value.pointer none, Value.slice none 0 0] 130)
  have hb0 := hbs.trans (hb1.mono hbs.size)
  have hW := write_c w.heap.size w.heap.size _ (varS (l.length : Int)) w1 (bld_below (bld_new w) hb1) (by rw [Lib.byteCells_length]; simp; omega) hb0.size
  rw [strCells_eq, ← byteCells_app, List.nil_append] at hW
  go_wp2_with (go_at_call 92; refine hW.mono ?_)
  rintro e w2 ⟨rfl, hbl2, hb2⟩
  go_wp2
  go_loopw [14] (fun i wr => ∃ k : Nat, k ≤ l.length ∧ i = .int .i64 k ∧ Lib.IsBuilder 130 5 w.heap.size w.heap.size (Lib.byteCells ((varS (l.length : Int)).data.toList ++ bytesT g (l.take k))) wr ∧ Below w.heap.size w wr) (fun i _ => l.length - (intOf i).toNat)
  case atStart => exact ⟨0, Nat.zero_le _, rfl, by simp only [List.take_zero, bytesT, List.map_nil, List.flatten_nil, List.append_nil]; exact .inr hbl2, hb0.trans hb2⟩
  case round =>
    obtain ⟨k, hk, rfl, hbl, hnx⟩ := hrel
    have hln := bytesT_len (l := l.take k) (g := g) (m := 4194304) (fun x hx => hg x (List.mem_of_mem_take hx))
    rw [List.length_take, Nat.min_eq_left hk] at hln
    have e9 : (varS (l.length : Int)).data.toList.length = (varS (l.length : Int)).size := Array.length_toList
    by_cases hlt : k < l.length
    · have hx := hA k l[k] (List.getElem?_eq_getElem hlt)
      have hgk := hg l[k] (List.getElem_mem hlt)
      have hcell : ∀ j u, ([.int .i64 l[k].Client, .int .i64 l[k].No, .int .i64 l[k].Ver.Epoch, .int .i64 l[k].Ver.Seq] : List Value)[j]? = some u → wr.cell? ((ad.add (k * 4)).add j) = some u := fun j u hu => (hnx.cell (block_lt_of_cell (hx j u hu))).trans (hx j u hu)
      have hC := hf l[k] (List.getElem_mem hlt)
      have c0 := hcell 0 _ rfl
      rw [add0'] at c0
      have c1 := hcell 1 _ rfl
      rw [addJ] at c1
      have c2 := hcell 2 _ rfl
      rw [addJ] at c2
      have c3 := hcell 3 _ rfl
      rw [addJ] at c3
      go_wp2_with (go_at_call 62; refine (hC _).mono ?_)
      rintro e w3 ⟨rfl, hb3⟩
      have hb4 := alloc_below hb3
      have hW := write_c w.heap.size w.heap.size _ (g l[k]) w3 (bld_below hbl hb4) (by rw [Lib.byteCells_length, List.length_append]; omega) (Nat.le_trans hnx.size hb4.size)
      rw [strCells_eq, ← byteCells_app, List.append_assoc, ← bytesT_step hlt] at hW
      go_wp2_with (go_at_call 92; refine hW.mono ?_)
      rintro e w4 ⟨rfl, hbl4, hb5⟩
      go_wp2
      go_roundw
      case rel => exact ⟨k + 1, hlt, rfl, .inr hbl4, (hnx.trans (hb4.mono hnx.size)).trans hb5⟩
      case measure => simp [intOf]; omega
    · have hke : k = l.length := by omega
      subst hke
      rw [List.take_length] at hbl
      have hS := Tryz.Builder_String_any w.heap.size w.heap.size _ wr hbl hnx.size
      go_wp2_with (go_at_call 94; refine hS.mono ?_)
      rintro e w3 ⟨rfl, hb3⟩
      go_wp2
      go_ret
      exact ⟨rfl, hnx.trans hb3⟩
theorem putEntryS_c (l : List GEntry) (g : GEntry → ByteArray) (ad : Addr) (c : Nat) (w : World) (hA : ∀ k x, l[k]? = some x → ∀ j u, ([.int .i64 x.Ver.Epoch, .int .i64 x.Ver.Seq, .int .i64 x.Prior.Epoch, .int .i64 x.Prior.Seq, .string x.Name, .bool x.Gone, .int .i64 x.Size, .int .i64 x.Sum, .int .i64 x.Req.Client, .int .i64 x.Req.No] : List Value)[j]? = some u → w.cell? ((ad.add (k * 10)).add j) = some u) (hn : l.length ≤ 1048576) (hg : ∀ x ∈ l, (g x).size ≤ 4194304)
    (hf : ∀ x ∈ l, ∀ w, Calls Tryz.prog 64 #[.agg (List.toArray [.int .i64 x.Ver.Epoch, .int .i64 x.Ver.Seq, .int .i64 x.Prior.Epoch, .int .i64 x.Prior.Seq, .string x.Name, .bool x.Gone, .int .i64 x.Size, .int .i64 x.Sum, .int .i64 x.Req.Client, .int .i64 x.Req.No])] w fun e w' => e = .returned (.string (g x)) ∧ Below w.heap.size w w') :
    Calls Tryz.prog 63 #[.slice (some ad) l.length c, .func (.func 64) #[] #[]] w fun e w' => e = .returned (.string ⟨((varS (l.length : Int)).data.toList ++ bytesT g l).toArray⟩) ∧ Below w.heap.size w w' := by
  go_enter Tryz.func63, Tryz.ntmps63
  go_wp2_with (go_at_call 93; refine (putVar_c (l.length : Int) _).mono ?_)
  rintro e w1 ⟨rfl, hb1⟩
  have hv9 := varS_size (l.length : Int)
  have hbs := (Below.refl w.heap.size w).alloc (Nat.le_refl _) (Obj.cells #[Value.pointer none, Value.slice none 0 0] 130)
  have hb0 := hbs.trans (hb1.mono hbs.size)
  have hW := write_c w.heap.size w.heap.size _ (varS (l.length : Int)) w1 (bld_below (bld_new w) hb1) (by rw [Lib.byteCells_length]; simp; omega) hb0.size
  rw [strCells_eq, ← byteCells_app, List.nil_append] at hW
  go_wp2_with (go_at_call 92; refine hW.mono ?_)
  rintro e w2 ⟨rfl, hbl2, hb2⟩
  go_wp2
  go_loopw [14] (fun i wr => ∃ k : Nat, k ≤ l.length ∧ i = .int .i64 k ∧ Lib.IsBuilder 130 5 w.heap.size w.heap.size (Lib.byteCells ((varS (l.length : Int)).data.toList ++ bytesT g (l.take k))) wr ∧ Below w.heap.size w wr) (fun i _ => l.length - (intOf i).toNat)
  case atStart => exact ⟨0, Nat.zero_le _, rfl, by simp only [List.take_zero, bytesT, List.map_nil, List.flatten_nil, List.append_nil]; exact .inr hbl2, hb0.trans hb2⟩
  case round =>
    obtain ⟨k, hk, rfl, hbl, hnx⟩ := hrel
    have hln := bytesT_len (l := l.take k) (g := g) (m := 4194304) (fun x hx => hg x (List.mem_of_mem_take hx))
    rw [List.length_take, Nat.min_eq_left hk] at hln
    have e9 : (varS (l.length : Int)).data.toList.length = (varS (l.length : Int)).size := Array.length_toList
    by_cases hlt : k < l.length
    · have hx := hA k l[k] (List.getElem?_eq_getElem hlt)
      have hgk := hg l[k] (List.getElem_mem hlt)
      have hcell : ∀ j u, ([.int .i64 l[k].Ver.Epoch, .int .i64 l[k].Ver.Seq, .int .i64 l[k].Prior.Epoch, .int .i64 l[k].Prior.Seq, .string l[k].Name, .bool l[k].Gone, .int .i64 l[k].Size, .int .i64 l[k].Sum, .int .i64 l[k].Req.Client, .int .i64 l[k].Req.No] : List Value)[j]? = some u → wr.cell? ((ad.add (k * 10)).add j) = some u := fun j u hu => (hnx.cell (block_lt_of_cell (hx j u hu))).trans (hx j u hu)
      have hC := hf l[k] (List.getElem_mem hlt)
      have c0 := hcell 0 _ rfl
      rw [add0'] at c0
      have c1 := hcell 1 _ rfl
      rw [addJ] at c1
      have c2 := hcell 2 _ rfl
      rw [addJ] at c2
      have c3 := hcell 3 _ rfl
      rw [addJ] at c3
      have c4 := hcell 4 _ rfl
      rw [addJ] at c4
      have c5 := hcell 5 _ rfl
      rw [addJ] at c5
      have c6 := hcell 6 _ rfl
      rw [addJ] at c6
      have c7 := hcell 7 _ rfl
      rw [addJ] at c7
      have c8 := hcell 8 _ rfl
      rw [addJ] at c8
      have c9 := hcell 9 _ rfl
      rw [addJ] at c9
      go_wp2_with (go_at_call 64; refine (hC _).mono ?_)
      rintro e w3 ⟨rfl, hb3⟩
      have hb4 := alloc_below hb3
      have hW := write_c w.heap.size w.heap.size _ (g l[k]) w3 (bld_below hbl hb4) (by rw [Lib.byteCells_length, List.length_append]; omega) (Nat.le_trans hnx.size hb4.size)
      rw [strCells_eq, ← byteCells_app, List.append_assoc, ← bytesT_step hlt] at hW
      go_wp2_with (go_at_call 92; refine hW.mono ?_)
      rintro e w4 ⟨rfl, hbl4, hb5⟩
      go_wp2
      go_roundw
      case rel => exact ⟨k + 1, hlt, rfl, .inr hbl4, (hnx.trans (hb4.mono hnx.size)).trans hb5⟩
      case measure => simp [intOf]; omega
    · have hke : k = l.length := by omega
      subst hke
      rw [List.take_length] at hbl
      have hS := Tryz.Builder_String_any w.heap.size w.heap.size _ wr hbl hnx.size
      go_wp2_with (go_at_call 94; refine hS.mono ?_)
      rintro e w3 ⟨rfl, hb3⟩
      go_wp2
      go_ret
      exact ⟨rfl, hnx.trans hb3⟩
theorem putChunkS_c (l : List GChunk) (g : GChunk → ByteArray) (ad : Addr) (c : Nat) (w : World) (hA : ∀ k x, l[k]? = some x → ∀ j u, ([.string x.Name, .int .i64 x.Ver.Epoch, .int .i64 x.Ver.Seq, .int .i64 x.Pos, .int .i64 x.Sum, .string x.Bytes] : List Value)[j]? = some u → w.cell? ((ad.add (k * 6)).add j) = some u) (hn : l.length ≤ 1048576) (hg : ∀ x ∈ l, (g x).size ≤ 4194304)
    (hf : ∀ x ∈ l, ∀ w, Calls Tryz.prog 66 #[.agg (List.toArray [.string x.Name, .int .i64 x.Ver.Epoch, .int .i64 x.Ver.Seq, .int .i64 x.Pos, .int .i64 x.Sum, .string x.Bytes])] w fun e w' => e = .returned (.string (g x)) ∧ Below w.heap.size w w') :
    Calls Tryz.prog 65 #[.slice (some ad) l.length c, .func (.func 66) #[] #[]] w fun e w' => e = .returned (.string ⟨((varS (l.length : Int)).data.toList ++ bytesT g l).toArray⟩) ∧ Below w.heap.size w w' := by
  go_enter Tryz.func65, Tryz.ntmps65
  go_wp2_with (go_at_call 93; refine (putVar_c (l.length : Int) _).mono ?_)
  rintro e w1 ⟨rfl, hb1⟩
  have hv9 := varS_size (l.length : Int)
  have hbs := (Below.refl w.heap.size w).alloc (Nat.le_refl _) (Obj.cells #[Value.pointer none, Value.slice none 0 0] 130)
  have hb0 := hbs.trans (hb1.mono hbs.size)
  have hW := write_c w.heap.size w.heap.size _ (varS (l.length : Int)) w1 (bld_below (bld_new w) hb1) (by rw [Lib.byteCells_length]; simp; omega) hb0.size
  rw [strCells_eq, ← byteCells_app, List.nil_append] at hW
  go_wp2_with (go_at_call 92; refine hW.mono ?_)
  rintro e w2 ⟨rfl, hbl2, hb2⟩
  go_wp2
  go_loopw [14] (fun i wr => ∃ k : Nat, k ≤ l.length ∧ i = .int .i64 k ∧ Lib.IsBuilder 130 5 w.heap.size w.heap.size (Lib.byteCells ((varS (l.length : Int)).data.toList ++ bytesT g (l.take k))) wr ∧ Below w.heap.size w wr) (fun i _ => l.length - (intOf i).toNat)
  case atStart => exact ⟨0, Nat.zero_le _, rfl, by simp only [List.take_zero, bytesT, List.map_nil, List.flatten_nil, List.append_nil]; exact .inr hbl2, hb0.trans hb2⟩
  case round =>
    obtain ⟨k, hk, rfl, hbl, hnx⟩ := hrel
    have hln := bytesT_len (l := l.take k) (g := g) (m := 4194304) (fun x hx => hg x (List.mem_of_mem_take hx))
    rw [List.length_take, Nat.min_eq_left hk] at hln
    have e9 : (varS (l.length : Int)).data.toList.length = (varS (l.length : Int)).size := Array.length_toList
    by_cases hlt : k < l.length
    · have hx := hA k l[k] (List.getElem?_eq_getElem hlt)
      have hgk := hg l[k] (List.getElem_mem hlt)
      have hcell : ∀ j u, ([.string l[k].Name, .int .i64 l[k].Ver.Epoch, .int .i64 l[k].Ver.Seq, .int .i64 l[k].Pos, .int .i64 l[k].Sum, .string l[k].Bytes] : List Value)[j]? = some u → wr.cell? ((ad.add (k * 6)).add j) = some u := fun j u hu => (hnx.cell (block_lt_of_cell (hx j u hu))).trans (hx j u hu)
      have hC := hf l[k] (List.getElem_mem hlt)
      have c0 := hcell 0 _ rfl
      rw [add0'] at c0
      have c1 := hcell 1 _ rfl
      rw [addJ] at c1
      have c2 := hcell 2 _ rfl
      rw [addJ] at c2
      have c3 := hcell 3 _ rfl
      rw [addJ] at c3
      have c4 := hcell 4 _ rfl
      rw [addJ] at c4
      have c5 := hcell 5 _ rfl
      rw [addJ] at c5
      go_wp2_with (go_at_call 66; refine (hC _).mono ?_)
      rintro e w3 ⟨rfl, hb3⟩
      have hb4 := alloc_below hb3
      have hW := write_c w.heap.size w.heap.size _ (g l[k]) w3 (bld_below hbl hb4) (by rw [Lib.byteCells_length, List.length_append]; omega) (Nat.le_trans hnx.size hb4.size)
      rw [strCells_eq, ← byteCells_app, List.append_assoc, ← bytesT_step hlt] at hW
      go_wp2_with (go_at_call 92; refine hW.mono ?_)
      rintro e w4 ⟨rfl, hbl4, hb5⟩
      go_wp2
      go_roundw
      case rel => exact ⟨k + 1, hlt, rfl, .inr hbl4, (hnx.trans (hb4.mono hnx.size)).trans hb5⟩
      case measure => simp [intOf]; omega
    · have hke : k = l.length := by omega
      subst hke
      rw [List.take_length] at hbl
      have hS := Tryz.Builder_String_any w.heap.size w.heap.size _ wr hbl hnx.size
      go_wp2_with (go_at_call 94; refine hS.mono ?_)
      rintro e w3 ⟨rfl, hb3⟩
      go_wp2
      go_ret
      exact ⟨rfl, hnx.trans hb3⟩
theorem putHeadS_0 (g : GHead → ByteArray) (c : Nat) (w : World) :
    Calls Tryz.prog 59 #[.slice none 0 c, .func (.func 60) #[] #[]] w fun e w' => e = .returned (.string ⟨((varS ((0 : Nat) : Int)).data.toList ++ bytesT g []).toArray⟩) ∧ Below w.heap.size w w' := by
  go_enter Tryz.func59, Tryz.ntmps59
  go_wp2_with (go_at_call 93; refine (putVar_c ((0 : Nat) : Int) _).mono ?_)
  rintro e w1 ⟨rfl, hb1⟩
  have hv9 := varS_size ((0 : Nat) : Int)
  have hb0 := alloc_below hb1
  have hW := write_c w.heap.size w.heap.size _ (varS ((0 : Nat) : Int)) w1 (bld_below (bld_new w) hb1) (by rw [Lib.byteCells_length]; show 0 + (varS ((0 : Nat) : Int)).size ≤ _; omega) hb0.size
  rw [strCells_eq, ← byteCells_app, List.nil_append] at hW
  go_wp2_with (go_at_call 92; refine hW.mono ?_)
  rintro e w2 ⟨rfl, hbl2, hb2⟩
  have hS := Tryz.Builder_String_any w.heap.size w.heap.size _ w2 (.inr hbl2) (hb0.trans hb2).size
  go_wp2
  refine Go.wp_loop_rounds 1 ?_
  rw [Go.rounds_succ]
  go_wp2_with (go_at_call 94; refine hS.mono ?_)
  rintro e w3 ⟨rfl, hb3⟩
  go_wp2
  go_ret
  exact ⟨by simp [bytesT], (hb0.trans hb2).trans hb3⟩
theorem putLastS_0 (g : GLast → ByteArray) (c : Nat) (w : World) :
    Calls Tryz.prog 61 #[.slice none 0 c, .func (.func 62) #[] #[]] w fun e w' => e = .returned (.string ⟨((varS ((0 : Nat) : Int)).data.toList ++ bytesT g []).toArray⟩) ∧ Below w.heap.size w w' := by
  go_enter Tryz.func61, Tryz.ntmps61
  go_wp2_with (go_at_call 93; refine (putVar_c ((0 : Nat) : Int) _).mono ?_)
  rintro e w1 ⟨rfl, hb1⟩
  have hv9 := varS_size ((0 : Nat) : Int)
  have hb0 := alloc_below hb1
  have hW := write_c w.heap.size w.heap.size _ (varS ((0 : Nat) : Int)) w1 (bld_below (bld_new w) hb1) (by rw [Lib.byteCells_length]; show 0 + (varS ((0 : Nat) : Int)).size ≤ _; omega) hb0.size
  rw [strCells_eq, ← byteCells_app, List.nil_append] at hW
  go_wp2_with (go_at_call 92; refine hW.mono ?_)
  rintro e w2 ⟨rfl, hbl2, hb2⟩
  have hS := Tryz.Builder_String_any w.heap.size w.heap.size _ w2 (.inr hbl2) (hb0.trans hb2).size
  go_wp2
  refine Go.wp_loop_rounds 1 ?_
  rw [Go.rounds_succ]
  go_wp2_with (go_at_call 94; refine hS.mono ?_)
  rintro e w3 ⟨rfl, hb3⟩
  go_wp2
  go_ret
  exact ⟨by simp [bytesT], (hb0.trans hb2).trans hb3⟩
theorem putEntryS_0 (g : GEntry → ByteArray) (c : Nat) (w : World) :
    Calls Tryz.prog 63 #[.slice none 0 c, .func (.func 64) #[] #[]] w fun e w' => e = .returned (.string ⟨((varS ((0 : Nat) : Int)).data.toList ++ bytesT g []).toArray⟩) ∧ Below w.heap.size w w' := by
  go_enter Tryz.func63, Tryz.ntmps63
  go_wp2_with (go_at_call 93; refine (putVar_c ((0 : Nat) : Int) _).mono ?_)
  rintro e w1 ⟨rfl, hb1⟩
  have hv9 := varS_size ((0 : Nat) : Int)
  have hb0 := alloc_below hb1
  have hW := write_c w.heap.size w.heap.size _ (varS ((0 : Nat) : Int)) w1 (bld_below (bld_new w) hb1) (by rw [Lib.byteCells_length]; show 0 + (varS ((0 : Nat) : Int)).size ≤ _; omega) hb0.size
  rw [strCells_eq, ← byteCells_app, List.nil_append] at hW
  go_wp2_with (go_at_call 92; refine hW.mono ?_)
  rintro e w2 ⟨rfl, hbl2, hb2⟩
  have hS := Tryz.Builder_String_any w.heap.size w.heap.size _ w2 (.inr hbl2) (hb0.trans hb2).size
  go_wp2
  refine Go.wp_loop_rounds 1 ?_
  rw [Go.rounds_succ]
  go_wp2_with (go_at_call 94; refine hS.mono ?_)
  rintro e w3 ⟨rfl, hb3⟩
  go_wp2
  go_ret
  exact ⟨by simp [bytesT], (hb0.trans hb2).trans hb3⟩
theorem putChunkS_0 (g : GChunk → ByteArray) (c : Nat) (w : World) :
    Calls Tryz.prog 65 #[.slice none 0 c, .func (.func 66) #[] #[]] w fun e w' => e = .returned (.string ⟨((varS ((0 : Nat) : Int)).data.toList ++ bytesT g []).toArray⟩) ∧ Below w.heap.size w w' := by
  go_enter Tryz.func65, Tryz.ntmps65
  go_wp2_with (go_at_call 93; refine (putVar_c ((0 : Nat) : Int) _).mono ?_)
  rintro e w1 ⟨rfl, hb1⟩
  have hv9 := varS_size ((0 : Nat) : Int)
  have hb0 := alloc_below hb1
  have hW := write_c w.heap.size w.heap.size _ (varS ((0 : Nat) : Int)) w1 (bld_below (bld_new w) hb1) (by rw [Lib.byteCells_length]; show 0 + (varS ((0 : Nat) : Int)).size ≤ _; omega) hb0.size
  rw [strCells_eq, ← byteCells_app, List.nil_append] at hW
  go_wp2_with (go_at_call 92; refine hW.mono ?_)
  rintro e w2 ⟨rfl, hbl2, hb2⟩
  have hS := Tryz.Builder_String_any w.heap.size w.heap.size _ w2 (.inr hbl2) (hb0.trans hb2).size
  go_wp2
  refine Go.wp_loop_rounds 1 ?_
  rw [Go.rounds_succ]
  go_wp2_with (go_at_call 94; refine hS.mono ?_)
  rintro e w3 ⟨rfl, hb3⟩
  go_wp2
  go_ret
  exact ⟨by simp [bytesT], (hb0.trans hb2).trans hb3⟩
def listS {α : Type} (g : α → ByteArray) (l : List α) : ByteArray := ⟨((varS (l.length : Int)).data.toList ++ bytesT g l).toArray⟩
theorem putHeadS_a (M : Mem) (l : List GHead) (g : GHead → ByteArray) (A : Option Addr) (c : Nat) (h : SlR M RHead 5 48 A c l) (hn : l.length ≤ 1048576) (hg : ∀ x ∈ l, (g x).size ≤ 4194304) (hf : ∀ x ∈ l, Ans Tryz.prog (fun _ => none) 60 #[.agg (List.toArray [.string x.Name, .int .i64 x.Ver.Epoch, .int .i64 x.Ver.Seq, .int .i64 x.Size, .int .i64 x.Sum])] (.string (g x))) : Ans Tryz.prog M 59 #[.slice A l.length c, .func (.func 60) #[] #[]] (.string (listS g l)) := by
  refine ⟨by kernel_rfl, fun w hw => ?_⟩
  cases A with
  | none =>
    have hl : l = [] := by
      cases l with
      | nil => rfl
      | cons x r => obtain ⟨ad, cs, h1, _⟩ := h.el 0 x rfl; cases h1
    subst hl
    exact putHeadS_0 g c w
  | some ad =>
    refine putHeadS_c l g ad c w (fun k x hx j u hu => ?_) hn hg (fun x hx w => (hf x hx).2 w (fun _ _ h => by cases h))
    obtain ⟨ad', he, X⟩ := at_Head h hx
    cases he
    obtain ⟨ad2, cs, h1, h2, h3, h4⟩ := h.el k x hx
    cases h1
    have hcs : cs = [.string x.Name, .int .i64 x.Ver.Epoch, .int .i64 x.Ver.Seq, .int .i64 x.Size, .int .i64 x.Sum] := h2.1
    subst hcs
    exact hw _ _ (h4 j u hu)
theorem putLastS_a (M : Mem) (l : List GLast) (g : GLast → ByteArray) (A : Option Addr) (c : Nat) (h : SlR M RLast 4 32 A c l) (hn : l.length ≤ 1048576) (hg : ∀ x ∈ l, (g x).size ≤ 4194304) (hf : ∀ x ∈ l, Ans Tryz.prog (fun _ => none) 62 #[.agg (List.toArray [.int .i64 x.Client, .int .i64 x.No, .int .i64 x.Ver.Epoch, .int .i64 x.Ver.Seq])] (.string (g x))) : Ans Tryz.prog M 61 #[.slice A l.length c, .func (.func 62) #[] #[]] (.string (listS g l)) := by
  refine ⟨by kernel_rfl, fun w hw => ?_⟩
  cases A with
  | none =>
    have hl : l = [] := by
      cases l with
      | nil => rfl
      | cons x r => obtain ⟨ad, cs, h1, _⟩ := h.el 0 x rfl; cases h1
    subst hl
    exact putLastS_0 g c w
  | some ad =>
    refine putLastS_c l g ad c w (fun k x hx j u hu => ?_) hn hg (fun x hx w => (hf x hx).2 w (fun _ _ h => by cases h))
    obtain ⟨ad', he, X⟩ := at_Last h hx
    cases he
    obtain ⟨ad2, cs, h1, h2, h3, h4⟩ := h.el k x hx
    cases h1
    have hcs : cs = [.int .i64 x.Client, .int .i64 x.No, .int .i64 x.Ver.Epoch, .int .i64 x.Ver.Seq] := h2.1
    subst hcs
    exact hw _ _ (h4 j u hu)
theorem putEntryS_a (M : Mem) (l : List GEntry) (g : GEntry → ByteArray) (A : Option Addr) (c : Nat) (h : SlR M REntry 10 88 A c l) (hn : l.length ≤ 1048576) (hg : ∀ x ∈ l, (g x).size ≤ 4194304) (hf : ∀ x ∈ l, Ans Tryz.prog (fun _ => none) 64 #[.agg (List.toArray [.int .i64 x.Ver.Epoch, .int .i64 x.Ver.Seq, .int .i64 x.Prior.Epoch, .int .i64 x.Prior.Seq, .string x.Name, .bool x.Gone, .int .i64 x.Size, .int .i64 x.Sum, .int .i64 x.Req.Client, .int .i64 x.Req.No])] (.string (g x))) : Ans Tryz.prog M 63 #[.slice A l.length c, .func (.func 64) #[] #[]] (.string (listS g l)) := by
  refine ⟨by kernel_rfl, fun w hw => ?_⟩
  cases A with
  | none =>
    have hl : l = [] := by
      cases l with
      | nil => rfl
      | cons x r => obtain ⟨ad, cs, h1, _⟩ := h.el 0 x rfl; cases h1
    subst hl
    exact putEntryS_0 g c w
  | some ad =>
    refine putEntryS_c l g ad c w (fun k x hx j u hu => ?_) hn hg (fun x hx w => (hf x hx).2 w (fun _ _ h => by cases h))
    obtain ⟨ad', he, X⟩ := at_Entry h hx
    cases he
    obtain ⟨ad2, cs, h1, h2, h3, h4⟩ := h.el k x hx
    cases h1
    have hcs : cs = [.int .i64 x.Ver.Epoch, .int .i64 x.Ver.Seq, .int .i64 x.Prior.Epoch, .int .i64 x.Prior.Seq, .string x.Name, .bool x.Gone, .int .i64 x.Size, .int .i64 x.Sum, .int .i64 x.Req.Client, .int .i64 x.Req.No] := h2.1
    subst hcs
    exact hw _ _ (h4 j u hu)
theorem putChunkS_a (M : Mem) (l : List GChunk) (g : GChunk → ByteArray) (A : Option Addr) (c : Nat) (h : SlR M RChunk 6 64 A c l) (hn : l.length ≤ 1048576) (hg : ∀ x ∈ l, (g x).size ≤ 4194304) (hf : ∀ x ∈ l, Ans Tryz.prog (fun _ => none) 66 #[.agg (List.toArray [.string x.Name, .int .i64 x.Ver.Epoch, .int .i64 x.Ver.Seq, .int .i64 x.Pos, .int .i64 x.Sum, .string x.Bytes])] (.string (g x))) : Ans Tryz.prog M 65 #[.slice A l.length c, .func (.func 66) #[] #[]] (.string (listS g l)) := by
  refine ⟨by kernel_rfl, fun w hw => ?_⟩
  cases A with
  | none =>
    have hl : l = [] := by
      cases l with
      | nil => rfl
      | cons x r => obtain ⟨ad, cs, h1, _⟩ := h.el 0 x rfl; cases h1
    subst hl
    exact putChunkS_0 g c w
  | some ad =>
    refine putChunkS_c l g ad c w (fun k x hx j u hu => ?_) hn hg (fun x hx w => (hf x hx).2 w (fun _ _ h => by cases h))
    obtain ⟨ad', he, X⟩ := at_Chunk h hx
    cases he
    obtain ⟨ad2, cs, h1, h2, h3, h4⟩ := h.el k x hx
    cases h1
    have hcs : cs = [.string x.Name, .int .i64 x.Ver.Epoch, .int .i64 x.Ver.Seq, .int .i64 x.Pos, .int .i64 x.Sum, .string x.Bytes] := h2.1
    subst hcs
    exact hw _ _ (h4 j u hu)
end Go.Proofs.YthpnmempecelaaaGreat.Bld
