/- Names by the light walk. -/
import Derived.Test.YthpnmempecelaaaGreatFunB
namespace Go.Proofs.YthpnmempecelaaaGreat.Hlp
open Go Go.RowKit Go.Proofs Go.Proofs.YthpnmempecelaaaGreat.Lw
set_option linter.unusedVariables false
set_option linter.unusedSimpArgs false
set_option maxRecDepth 100000
set_option maxHeartbeats 4000000
/-- A name's byte: a small letter or a digit. -/
def okB (b : UInt8) : Bool := (decide (97 ≤ (b.toNat : Int)) && decide ((b.toNat : Int) ≤ 122)) || (decide (48 ≤ (b.toNat : Int)) && decide ((b.toNat : Int) ≤ 57))
def nameOkF (s : ByteArray) : Bool := s.data.toList.all okB && inR (s.size : Int) 1 8
theorem name_all {s : ByteArray} (h : ∀ j, j < s.size → okB (s.data.getD j 0) = true) : s.data.toList.all okB = true := by
  rw [List.all_eq_true]
  intro x hx
  obtain ⟨j, hj, rfl⟩ := List.getElem_of_mem hx
  have hj' : j < s.data.size := by simpa using hj
  have := h j hj'
  simpa [Array.getD_eq_getD_getElem?, Array.getElem?_eq_getElem hj'] using this
theorem name_no {s : ByteArray} {j : Nat} (hj : j < s.size) (h : okB (s.data.getD j 0) = false) : s.data.toList.all okB = false := by
  rw [List.all_eq_false]
  have hj' : j < s.data.size := hj
  refine ⟨s.data.getD j 0, ?_, by rw [h]; simp⟩
  rw [Array.getD_eq_getD_getElem?, Array.getElem?_eq_getElem hj']
  simp
theorem nameOk_a (M : Mem) (s : ByteArray) (hb : s.size ≤ 9223372036854775807) : Ans Tryz.prog M 83 #[.string s] (.bool (nameOkF s)) := by
  refine ans_of T (l := [.string s]) mixed Tryz.func83 rfl (by kernel_rfl) (Nat.le_of_ble_eq_true rfl) ?_
  (conv => whnf)
  refine LoopK.mk {k : Nat // k ≤ s.size ∧ ∀ j : Nat, j < k → okB (s.data.getD j 0) = true} (fun ⟨k, _⟩ => [(0, .v (.string s)), (6, .v (.int .i64 (s.size : Int))), (7, .v (.int .i64 (k : Int)))]) (fun _ => []) (fun _ => M) (fun k => s.size - k.1) ⟨0, Nat.zero_le _, fun j hj => absurd hj (by omega)⟩ ⟨⟨⟨rfl, rfl, rfl, trivial⟩, trivial, rfl, rfl⟩, rfl⟩ ?_
  rintro ⟨k, hk, ha⟩
  (conv => whnf)
  refine CondK.mk (fun h1 => ?_) (fun h1 => ?_)
  · have hlt : k < s.size := by simpa using h1
    repeat' ((conv => whnf); first | with_reducible refine CondK.tt ?_ | with_reducible refine CondK.ff ?_ | with_reducible refine CondK.not ?_ | refine IdxS.mk (by omega) (by omega) ?_ | refine GuardK.mk (fun h => ?_) (fun h => ?_) | refine CondK.mk (fun h => ?_) (fun h => ?_) | fail)
    all_goals first
      | (have h0 : okB (s.data.getD k 0) = true := by (unfold okB; simp_all) <;> omega
         exact ⟨⟨k + 1, hlt, fun j hj => by rcases Nat.lt_succ_iff_lt_or_eq.mp hj with hj | rfl; exact ha j hj; exact h0⟩, ⟨⟨rfl, rfl, look_int (i64_succ (by omega)), trivial⟩, trivial, rfl, rfl⟩, rfl, by simp; omega⟩)
      | (have h0 : okB (s.data.getD k 0) = false := by (unfold okB; simp_all) <;> omega
         refine ret_bool ?_
         unfold nameOkF
         rw [name_no hlt h0]
         rfl)
  · have he : k = s.size := by have : ¬ k < s.size := by simpa using h1
                               omega
    subst he
    repeat' ((conv => whnf); first | refine CallK.mk _ (between_a _ _ _ _) ?_ | fail)
    refine ret_bool ?_
    unfold nameOkF
    rw [name_all ha]
    rfl
theorem l09Name_a (M : Mem) (s : ByteArray) (hb : s.size ≤ 9223372036854775807) : Ans Tryz.prog M 98 #[.string s] (.bool (nameOkF s)) := by
  refine ans_of T (l := [.string s]) mixed Tryz.func98 rfl (by kernel_rfl) (Nat.le_of_ble_eq_true rfl) ?_
  have no : inR (s.size : Int) 1 8 = false → Value.bool false = Value.bool (nameOkF s) := fun h => by unfold nameOkF; rw [h, Bool.and_false]
  repeat' ((conv => whnf); first | with_reducible refine CondK.tt ?_ | with_reducible refine CondK.ff ?_ | with_reducible refine CondK.not ?_ | refine GuardK.mk (fun h => ?_) (fun h => ?_) | refine CondK.mk (fun h => ?_) (fun h => ?_) | fail)
  all_goals first
    | (refine no ?_; (unfold inR; simp_all) <;> omega)
    | skip
  have hr : inR (s.size : Int) 1 8 = true := by (unfold inR; simp_all) <;> omega
  refine LoopK.mk {k : Nat // k ≤ s.size ∧ ∀ j : Nat, j < k → okB (s.data.getD j 0) = true} (fun ⟨k, _⟩ => [(0, .v (.string s)), (3, .v (.int .i64 (k : Int)))]) (fun _ => []) (fun _ => M) (fun k => s.size - k.1) ⟨0, Nat.zero_le _, fun j hj => absurd hj (by omega)⟩ ⟨⟨⟨rfl, rfl, trivial⟩, trivial, rfl, rfl⟩, rfl⟩ ?_
  rintro ⟨k, hk, ha⟩
  (conv => whnf)
  refine CondK.mk (fun h1 => ?_) (fun h1 => ?_)
  · have hlt : k < s.size := by simpa using h1
    repeat' ((conv => whnf); first | with_reducible refine CondK.tt ?_ | with_reducible refine CondK.ff ?_ | with_reducible refine CondK.not ?_ | refine IdxS.mk (by omega) (by omega) ?_ | refine GuardK.mk (fun h => ?_) (fun h => ?_) | refine CondK.mk (fun h => ?_) (fun h => ?_) | fail)
    all_goals first
      | (have h0 : okB (s.data.getD k 0) = true := by (unfold okB; simp_all) <;> omega
         exact ⟨⟨k + 1, hlt, fun j hj => by rcases Nat.lt_succ_iff_lt_or_eq.mp hj with hj | rfl; exact ha j hj; exact h0⟩, ⟨⟨rfl, look_int (i64_succ (by omega)), trivial⟩, trivial, rfl, rfl⟩, rfl, by simp; omega⟩)
      | (have h0 : okB (s.data.getD k 0) = false := by (unfold okB; simp_all) <;> omega
         refine ret_bool ?_
         unfold nameOkF
         rw [name_no hlt h0]
         rfl)
  · have he : k = s.size := by have : ¬ k < s.size := by simpa using h1
                               omega
    subst he
    refine ret_bool ?_
    unfold nameOkF
    rw [name_all ha, hr]
    rfl
theorem sNameOk_a (M : Mem) (s : ByteArray) (hb : s.size ≤ 9223372036854775807) : Ans Tryz.prog M 72 #[.string s] (.bool (nameOkF s)) := by
  refine ans_of T (l := [.string s]) mixed Tryz.func72 rfl (by kernel_rfl) (Nat.le_of_ble_eq_true rfl) ?_
  repeat' ((conv => whnf); first | refine CallK.mk _ (l09Name_a _ _ hb) ?_ | fail)
  exact ret_bool rfl
end Go.Proofs.YthpnmempecelaaaGreat.Hlp
