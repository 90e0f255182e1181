/- Whether two are the same, by the light walk. -/
import Derived.Test.YtmdbeooianiojaaGreatHlpD
namespace Go.Proofs.YtmdbeooianiojaaGreat.Hlp
open Go Go.RowKit Go.Proofs Go.Proofs.YtmdbeooianiojaaGreat.Lw
set_option linter.unusedVariables false
set_option linter.unusedSimpArgs false
set_option maxRecDepth 100000
set_option maxHeartbeats 4000000
theorem sEq_Int64 (M : Mem) (l l' : List Int) (A A' : Option Addr) (c c' : Nat) (h : SlR M RInt 1 8 A c l) (h' : SlR M RInt 1 8 A' c' l') : Ans Tryz.prog M 30 #[.slice A l.length c, .slice A' l'.length c'] (.bool (decide (l = l'))) := by
  have hl := h.len
  refine ans_of T (l := [.slice A l.length c, .slice A' l'.length c']) mixed Tryz.func30 rfl (by kernel_rfl) (Nat.le_of_ble_eq_true rfl) ?_
  (conv => whnf)
  refine CondK.mk (fun h1 => ?_) (fun h1 => ?_)
  · refine ret_bool ((decide_eq_false fun he => ?_).symm)
    subst he
    simp at h1
  have hll : l.length = l'.length := by simp at h1; omega
  (conv => whnf)
  refine LoopK.mk {k : Nat // k ≤ l.length ∧ ∀ j : Nat, j < k → l[j]? = l'[j]?} (fun ⟨k, _⟩ => [(0, .v (.slice A l.length c)), (1, .v (.slice A' l'.length c')), (12, .v (.int .i64 (l.length : Int))), (13, .v (.int .i64 (k : Int)))]) (fun _ => []) (fun _ => M) (fun k => l.length - k.1) ⟨0, Nat.zero_le _, fun j hj => absurd hj (by omega)⟩ ⟨⟨⟨rfl, rfl, rfl, rfl, trivial⟩, trivial, rfl, rfl⟩, rfl⟩ ?_
  rintro ⟨k, hk, ha⟩
  (conv => whnf)
  refine CondK.mk (fun h1 => ?_) (fun h1 => ?_)
  · have hlt : k < l.length := by simpa using h1
    have hlt' : k < l'.length := by omega
    have hx := List.getElem?_eq_getElem hlt
    have hy := List.getElem?_eq_getElem hlt'
    obtain ⟨ad, rfl, bnx, x0⟩ := at_Int h hx
    obtain ⟨ad', rfl, bny, y0⟩ := at_Int h' hy
    repeat' ((conv => whnf); first | with_reducible refine CondK.tt ?_ | with_reducible refine CondK.ff ?_ | with_reducible refine CondK.not ?_ | refine LdK.mk _ (by assumption) ?_ | refine IdxK.mk _ rfl (by omega) (by omega) ?_ | refine DrawN.q (by kernel_rfl) ?_ | refine CondK.mk (fun h => ?_) (fun h => ?_))
    all_goals first
      | (have he : l[k] = l'[k] := by first | exact of_decide_eq_true (by first | (rw [← eqv_Ver]; exact not_f h) | (rw [← eqv_Ver]; exact h) | exact not_f h | exact h) | (simpa using h)
         exact ⟨⟨k + 1, hlt, agree_step ha (by rw [hx, hy, he])⟩, ⟨⟨rfl, rfl, rfl, look_int (i64_succ (by omega)), trivial⟩, trivial, rfl, rfl⟩, rfl, by simp; omega⟩)
      | (refine ret_bool ?_
         refine (decide_eq_false fun he => ?_).symm
         have he : l[k] = l'[k] := by subst he; rfl
         first | exact of_decide_eq_false (show decide (l[k] = l'[k]) = false by first | (rw [← eqv_Ver]; exact not_t h) | (rw [← eqv_Ver]; exact h) | exact not_t h | exact h) he | (simp [he] at h))
  · exact ret_bool (decide_eq_true (agree_all ha hll (by simpa using h1))).symm
theorem l00Same_a (M : Mem) (l l' : List Int) (A A' : Option Addr) (c c' : Nat) (h : SlR M RInt 1 8 A c l) (h' : SlR M RInt 1 8 A' c' l') : Ans Tryz.prog M 16 #[.slice A l.length c, .slice A' l'.length c'] (.bool (decide (l = l'))) := by
  have hl := h.len
  refine ans_of T (l := [.slice A l.length c, .slice A' l'.length c']) mixed Tryz.func16 rfl (by kernel_rfl) (Nat.le_of_ble_eq_true rfl) ?_
  (conv => whnf)
  refine CondK.mk (fun h1 => ?_) (fun h1 => ?_)
  · refine ret_bool ((decide_eq_false fun he => ?_).symm)
    subst he
    simp at h1
  have hll : l.length = l'.length := by simp at h1; omega
  (conv => whnf)
  refine LoopK.mk {k : Nat // k ≤ l.length ∧ ∀ j : Nat, j < k → l[j]? = l'[j]?} (fun ⟨k, _⟩ => [(0, .v (.slice A l.length c)), (1, .v (.slice A' l'.length c')), (5, .v (.int .i64 (k : Int)))]) (fun _ => []) (fun _ => M) (fun k => l.length - k.1) ⟨0, Nat.zero_le _, fun j hj => absurd hj (by omega)⟩ ⟨⟨⟨rfl, rfl, rfl, trivial⟩, trivial, rfl, rfl⟩, rfl⟩ ?_
  rintro ⟨k, hk, ha⟩
  (conv => whnf)
  refine CondK.mk (fun h1 => ?_) (fun h1 => ?_)
  · have hlt : k < l.length := by simpa using h1
    have hlt' : k < l'.length := by omega
    have hx := List.getElem?_eq_getElem hlt
    have hy := List.getElem?_eq_getElem hlt'
    obtain ⟨ad, rfl, bnx, x0⟩ := at_Int h hx
    obtain ⟨ad', rfl, bny, y0⟩ := at_Int h' hy
    repeat' ((conv => whnf); first | with_reducible refine CondK.tt ?_ | with_reducible refine CondK.ff ?_ | with_reducible refine CondK.not ?_ | refine LdK.mk _ (by assumption) ?_ | refine IdxK.mk _ rfl (by omega) (by omega) ?_ | refine DrawN.q (by kernel_rfl) ?_ | refine CondK.mk (fun h => ?_) (fun h => ?_))
    all_goals first
      | (have he : l[k] = l'[k] := by first | exact of_decide_eq_true (by first | (rw [← eqv_Ver]; exact not_f h) | (rw [← eqv_Ver]; exact h) | exact not_f h | exact h) | (simpa using h)
         exact ⟨⟨k + 1, hlt, agree_step ha (by rw [hx, hy, he])⟩, ⟨⟨rfl, rfl, look_int (i64_succ (by omega)), trivial⟩, trivial, rfl, rfl⟩, rfl, by simp; omega⟩)
      | (refine ret_bool ?_
         refine (decide_eq_false fun he => ?_).symm
         have he : l[k] = l'[k] := by subst he; rfl
         first | exact of_decide_eq_false (show decide (l[k] = l'[k]) = false by first | (rw [← eqv_Ver]; exact not_t h) | (rw [← eqv_Ver]; exact h) | exact not_t h | exact h) he | (simp [he] at h))
  · exact ret_bool (decide_eq_true (agree_all ha hll (by simpa using h1))).symm
theorem sEq_Head (M : Mem) (l l' : List GHead) (A A' : Option Addr) (c c' : Nat) (h : SlR M RHead 5 48 A c l) (h' : SlR M RHead 5 48 A' c' l') : Ans Tryz.prog M 70 #[.slice A l.length c, .slice A' l'.length c'] (.bool (decide (l = l'))) := by
  have hl := h.len
  refine ans_of T (l := [.slice A l.length c, .slice A' l'.length c']) mixed Tryz.func70 rfl (by kernel_rfl) (Nat.le_of_ble_eq_true rfl) ?_
  (conv => whnf)
  refine CondK.mk (fun h1 => ?_) (fun h1 => ?_)
  · refine ret_bool ((decide_eq_false fun he => ?_).symm)
    subst he
    simp at h1
  have hll : l.length = l'.length := by simp at h1; omega
  (conv => whnf)
  refine LoopK.mk {k : Nat // k ≤ l.length ∧ ∀ j : Nat, j < k → l[j]? = l'[j]?} (fun ⟨k, _⟩ => [(0, .v (.slice A l.length c)), (1, .v (.slice A' l'.length c')), (12, .v (.int .i64 (l.length : Int))), (13, .v (.int .i64 (k : Int)))]) (fun _ => []) (fun _ => M) (fun k => l.length - k.1) ⟨0, Nat.zero_le _, fun j hj => absurd hj (by omega)⟩ ⟨⟨⟨rfl, rfl, rfl, rfl, trivial⟩, trivial, rfl, rfl⟩, rfl⟩ ?_
  rintro ⟨k, hk, ha⟩
  (conv => whnf)
  refine CondK.mk (fun h1 => ?_) (fun h1 => ?_)
  · have hlt : k < l.length := by simpa using h1
    have hlt' : k < l'.length := by omega
    have hx := List.getElem?_eq_getElem hlt
    have hy := List.getElem?_eq_getElem hlt'
    obtain ⟨ad, rfl, bnx, x0, x1, x2, x3, x4⟩ := at_Head h hx
    obtain ⟨ad', rfl, bny, y0, y1, y2, y3, y4⟩ := at_Head h' hy
    repeat' ((conv => whnf); first | with_reducible refine CondK.tt ?_ | with_reducible refine CondK.ff ?_ | with_reducible refine CondK.not ?_ | refine LdK.mk _ (by assumption) ?_ | refine IdxK.mk _ rfl (by omega) (by omega) ?_ | refine DrawN.q (by kernel_rfl) ?_ | refine CondK.mk (fun h => ?_) (fun h => ?_))
    all_goals first
      | (have he : l[k] = l'[k] := by first | exact of_decide_eq_true (by first | (rw [← eqv_Head]; exact not_f h) | (rw [← eqv_Head]; exact h) | exact not_f h | exact h) | (simpa using h)
         exact ⟨⟨k + 1, hlt, agree_step ha (by rw [hx, hy, he])⟩, ⟨⟨rfl, rfl, rfl, look_int (i64_succ (by omega)), trivial⟩, trivial, rfl, rfl⟩, rfl, by simp; omega⟩)
      | (refine ret_bool ?_
         refine (decide_eq_false fun he => ?_).symm
         have he : l[k] = l'[k] := by subst he; rfl
         first | exact of_decide_eq_false (show decide (l[k] = l'[k]) = false by first | (rw [← eqv_Head]; exact not_t h) | (rw [← eqv_Head]; exact h) | exact not_t h | exact h) he | (simp [he] at h))
  · exact ret_bool (decide_eq_true (agree_all ha hll (by simpa using h1))).symm
theorem sEq_Last (M : Mem) (l l' : List GLast) (A A' : Option Addr) (c c' : Nat) (h : SlR M RLast 4 32 A c l) (h' : SlR M RLast 4 32 A' c' l') : Ans Tryz.prog M 71 #[.slice A l.length c, .slice A' l'.length c'] (.bool (decide (l = l'))) := by
  have hl := h.len
  refine ans_of T (l := [.slice A l.length c, .slice A' l'.length c']) mixed Tryz.func71 rfl (by kernel_rfl) (Nat.le_of_ble_eq_true rfl) ?_
  (conv => whnf)
  refine CondK.mk (fun h1 => ?_) (fun h1 => ?_)
  · refine ret_bool ((decide_eq_false fun he => ?_).symm)
    subst he
    simp at h1
  have hll : l.length = l'.length := by simp at h1; omega
  (conv => whnf)
  refine LoopK.mk {k : Nat // k ≤ l.length ∧ ∀ j : Nat, j < k → l[j]? = l'[j]?} (fun ⟨k, _⟩ => [(0, .v (.slice A l.length c)), (1, .v (.slice A' l'.length c')), (12, .v (.int .i64 (l.length : Int))), (13, .v (.int .i64 (k : Int)))]) (fun _ => []) (fun _ => M) (fun k => l.length - k.1) ⟨0, Nat.zero_le _, fun j hj => absurd hj (by omega)⟩ ⟨⟨⟨rfl, rfl, rfl, rfl, trivial⟩, trivial, rfl, rfl⟩, rfl⟩ ?_
  rintro ⟨k, hk, ha⟩
  (conv => whnf)
  refine CondK.mk (fun h1 => ?_) (fun h1 => ?_)
  · have hlt : k < l.length := by simpa using h1
    have hlt' : k < l'.length := by omega
    have hx := List.getElem?_eq_getElem hlt
    have hy := List.getElem?_eq_getElem hlt'
    obtain ⟨ad, rfl, bnx, x0, x1, x2, x3⟩ := at_Last h hx
    obtain ⟨ad', rfl, bny, y0, y1, y2, y3⟩ := at_Last h' hy
    repeat' ((conv => whnf); first | with_reducible refine CondK.tt ?_ | with_reducible refine CondK.ff ?_ | with_reducible refine CondK.not ?_ | refine LdK.mk _ (by assumption) ?_ | refine IdxK.mk _ rfl (by omega) (by omega) ?_ | refine DrawN.q (by kernel_rfl) ?_ | refine CondK.mk (fun h => ?_) (fun h => ?_))
    all_goals first
      | (have he : l[k] = l'[k] := by first | exact of_decide_eq_true (by first | (rw [← eqv_Last]; exact not_f h) | (rw [← eqv_Last]; exact h) | exact not_f h | exact h) | (simpa using h)
         exact ⟨⟨k + 1, hlt, agree_step ha (by rw [hx, hy, he])⟩, ⟨⟨rfl, rfl, rfl, look_int (i64_succ (by omega)), trivial⟩, trivial, rfl, rfl⟩, rfl, by simp; omega⟩)
      | (refine ret_bool ?_
         refine (decide_eq_false fun he => ?_).symm
         have he : l[k] = l'[k] := by subst he; rfl
         first | exact of_decide_eq_false (show decide (l[k] = l'[k]) = false by first | (rw [← eqv_Last]; exact not_t h) | (rw [← eqv_Last]; exact h) | exact not_t h | exact h) he | (simp [he] at h))
  · exact ret_bool (decide_eq_true (agree_all ha hll (by simpa using h1))).symm
theorem sEq_Entry (M : Mem) (l l' : List GEntry) (A A' : Option Addr) (c c' : Nat) (h : SlR M REntry 10 88 A c l) (h' : SlR M REntry 10 88 A' c' l') : Ans Tryz.prog M 72 #[.slice A l.length c, .slice A' l'.length c'] (.bool (decide (l = l'))) := by
  have hl := h.len
  refine ans_of T (l := [.slice A l.length c, .slice A' l'.length c']) mixed Tryz.func72 rfl (by kernel_rfl) (Nat.le_of_ble_eq_true rfl) ?_
  (conv => whnf)
  refine CondK.mk (fun h1 => ?_) (fun h1 => ?_)
  · refine ret_bool ((decide_eq_false fun he => ?_).symm)
    subst he
    simp at h1
  have hll : l.length = l'.length := by simp at h1; omega
  (conv => whnf)
  refine LoopK.mk {k : Nat // k ≤ l.length ∧ ∀ j : Nat, j < k → l[j]? = l'[j]?} (fun ⟨k, _⟩ => [(0, .v (.slice A l.length c)), (1, .v (.slice A' l'.length c')), (12, .v (.int .i64 (l.length : Int))), (13, .v (.int .i64 (k : Int)))]) (fun _ => []) (fun _ => M) (fun k => l.length - k.1) ⟨0, Nat.zero_le _, fun j hj => absurd hj (by omega)⟩ ⟨⟨⟨rfl, rfl, rfl, rfl, trivial⟩, trivial, rfl, rfl⟩, rfl⟩ ?_
  rintro ⟨k, hk, ha⟩
  (conv => whnf)
  refine CondK.mk (fun h1 => ?_) (fun h1 => ?_)
  · have hlt : k < l.length := by simpa using h1
    have hlt' : k < l'.length := by omega
    have hx := List.getElem?_eq_getElem hlt
    have hy := List.getElem?_eq_getElem hlt'
    obtain ⟨ad, rfl, bnx, x0, x1, x2, x3, x4, x5, x6, x7, x8, x9⟩ := at_Entry h hx
    obtain ⟨ad', rfl, bny, y0, y1, y2, y3, y4, y5, y6, y7, y8, y9⟩ := at_Entry h' hy
    repeat' ((conv => whnf); first | with_reducible refine CondK.tt ?_ | with_reducible refine CondK.ff ?_ | with_reducible refine CondK.not ?_ | refine LdK.mk _ (by assumption) ?_ | refine IdxK.mk _ rfl (by omega) (by omega) ?_ | refine DrawN.q (by kernel_rfl) ?_ | refine CondK.mk (fun h => ?_) (fun h => ?_))
    all_goals first
      | (have he : l[k] = l'[k] := by first | exact of_decide_eq_true (by first | (rw [← eqv_Entry]; exact not_f h) | (rw [← eqv_Entry]; exact h) | exact not_f h | exact h) | (simpa using h)
         exact ⟨⟨k + 1, hlt, agree_step ha (by rw [hx, hy, he])⟩, ⟨⟨rfl, rfl, rfl, look_int (i64_succ (by omega)), trivial⟩, trivial, rfl, rfl⟩, rfl, by simp; omega⟩)
      | (refine ret_bool ?_
         refine (decide_eq_false fun he => ?_).symm
         have he : l[k] = l'[k] := by subst he; rfl
         first | exact of_decide_eq_false (show decide (l[k] = l'[k]) = false by first | (rw [← eqv_Entry]; exact not_t h) | (rw [← eqv_Entry]; exact h) | exact not_t h | exact h) he | (simp [he] at h))
  · exact ret_bool (decide_eq_true (agree_all ha hll (by simpa using h1))).symm
theorem sEq_Chunk (M : Mem) (l l' : List GChunk) (A A' : Option Addr) (c c' : Nat) (h : SlR M RChunk 6 64 A c l) (h' : SlR M RChunk 6 64 A' c' l') : Ans Tryz.prog M 37 #[.slice A l.length c, .slice A' l'.length c'] (.bool (decide (l = l'))) := by
  have hl := h.len
  refine ans_of T (l := [.slice A l.length c, .slice A' l'.length c']) mixed Tryz.func37 rfl (by kernel_rfl) (Nat.le_of_ble_eq_true rfl) ?_
  (conv => whnf)
  refine CondK.mk (fun h1 => ?_) (fun h1 => ?_)
  · refine ret_bool ((decide_eq_false fun he => ?_).symm)
    subst he
    simp at h1
  have hll : l.length = l'.length := by simp at h1; omega
  (conv => whnf)
  refine LoopK.mk {k : Nat // k ≤ l.length ∧ ∀ j : Nat, j < k → l[j]? = l'[j]?} (fun ⟨k, _⟩ => [(0, .v (.slice A l.length c)), (1, .v (.slice A' l'.length c')), (12, .v (.int .i64 (l.length : Int))), (13, .v (.int .i64 (k : Int)))]) (fun _ => []) (fun _ => M) (fun k => l.length - k.1) ⟨0, Nat.zero_le _, fun j hj => absurd hj (by omega)⟩ ⟨⟨⟨rfl, rfl, rfl, rfl, trivial⟩, trivial, rfl, rfl⟩, rfl⟩ ?_
  rintro ⟨k, hk, ha⟩
  (conv => whnf)
  refine CondK.mk (fun h1 => ?_) (fun h1 => ?_)
  · have hlt : k < l.length := by simpa using h1
    have hlt' : k < l'.length := by omega
    have hx := List.getElem?_eq_getElem hlt
    have hy := List.getElem?_eq_getElem hlt'
    obtain ⟨ad, rfl, bnx, x0, x1, x2, x3, x4, x5⟩ := at_Chunk h hx
    obtain ⟨ad', rfl, bny, y0, y1, y2, y3, y4, y5⟩ := at_Chunk h' hy
    repeat' ((conv => whnf); first | with_reducible refine CondK.tt ?_ | with_reducible refine CondK.ff ?_ | with_reducible refine CondK.not ?_ | refine LdK.mk _ (by assumption) ?_ | refine IdxK.mk _ rfl (by omega) (by omega) ?_ | refine DrawN.q (by kernel_rfl) ?_ | refine CondK.mk (fun h => ?_) (fun h => ?_))
    all_goals first
      | (have he : l[k] = l'[k] := by first | exact of_decide_eq_true (by first | (rw [← eqv_Chunk]; exact not_f h) | (rw [← eqv_Chunk]; exact h) | exact not_f h | exact h) | (simpa using h)
         exact ⟨⟨k + 1, hlt, agree_step ha (by rw [hx, hy, he])⟩, ⟨⟨rfl, rfl, rfl, look_int (i64_succ (by omega)), trivial⟩, trivial, rfl, rfl⟩, rfl, by simp; omega⟩)
      | (refine ret_bool ?_
         refine (decide_eq_false fun he => ?_).symm
         have he : l[k] = l'[k] := by subst he; rfl
         first | exact of_decide_eq_false (show decide (l[k] = l'[k]) = false by first | (rw [← eqv_Chunk]; exact not_t h) | (rw [← eqv_Chunk]; exact h) | exact not_t h | exact h) he | (simp [he] at h))
  · exact ret_bool (decide_eq_true (agree_all ha hll (by simpa using h1))).symm
theorem sEq_Way (M : Mem) (l l' : List GWay) (A A' : Option Addr) (c c' : Nat) (h : SlR M RWay 11 104 A c l) (h' : SlR M RWay 11 104 A' c' l') : Ans Tryz.prog M 73 #[.slice A l.length c, .slice A' l'.length c'] (.bool (decide (l = l'))) := by
  have hl := h.len
  refine ans_of T (l := [.slice A l.length c, .slice A' l'.length c']) mixed Tryz.func73 rfl (by kernel_rfl) (Nat.le_of_ble_eq_true rfl) ?_
  (conv => whnf)
  refine CondK.mk (fun h1 => ?_) (fun h1 => ?_)
  · refine ret_bool ((decide_eq_false fun he => ?_).symm)
    subst he
    simp at h1
  have hll : l.length = l'.length := by simp at h1; omega
  (conv => whnf)
  refine LoopK.mk {k : Nat // k ≤ l.length ∧ ∀ j : Nat, j < k → l[j]? = l'[j]?} (fun ⟨k, _⟩ => [(0, .v (.slice A l.length c)), (1, .v (.slice A' l'.length c')), (12, .v (.int .i64 (l.length : Int))), (13, .v (.int .i64 (k : Int)))]) (fun _ => []) (fun _ => M) (fun k => l.length - k.1) ⟨0, Nat.zero_le _, fun j hj => absurd hj (by omega)⟩ ⟨⟨⟨rfl, rfl, rfl, rfl, trivial⟩, trivial, rfl, rfl⟩, rfl⟩ ?_
  rintro ⟨k, hk, ha⟩
  (conv => whnf)
  refine CondK.mk (fun h1 => ?_) (fun h1 => ?_)
  · have hlt : k < l.length := by simpa using h1
    have hlt' : k < l'.length := by omega
    have hx := List.getElem?_eq_getElem hlt
    have hy := List.getElem?_eq_getElem hlt'
    obtain ⟨ad, rfl, bnx, x0, x1, x2, x3, x4, x5, x6, x7, x8, x9, x10⟩ := at_Way h hx
    obtain ⟨ad', rfl, bny, y0, y1, y2, y3, y4, y5, y6, y7, y8, y9, y10⟩ := at_Way h' hy
    repeat' ((conv => whnf); first | with_reducible refine CondK.tt ?_ | with_reducible refine CondK.ff ?_ | with_reducible refine CondK.not ?_ | refine LdK.mk _ (by assumption) ?_ | refine IdxK.mk _ rfl (by omega) (by omega) ?_ | refine DrawN.q (by kernel_rfl) ?_ | refine CondK.mk (fun h => ?_) (fun h => ?_))
    all_goals first
      | (have he : l[k] = l'[k] := by first | exact of_decide_eq_true (by first | (rw [← eqv_Way]; exact not_f h) | (rw [← eqv_Way]; exact h) | exact not_f h | exact h) | (simpa using h)
         exact ⟨⟨k + 1, hlt, agree_step ha (by rw [hx, hy, he])⟩, ⟨⟨rfl, rfl, rfl, look_int (i64_succ (by omega)), trivial⟩, trivial, rfl, rfl⟩, rfl, by simp; omega⟩)
      | (refine ret_bool ?_
         refine (decide_eq_false fun he => ?_).symm
         have he : l[k] = l'[k] := by subst he; rfl
         first | exact of_decide_eq_false (show decide (l[k] = l'[k]) = false by first | (rw [← eqv_Way]; exact not_t h) | (rw [← eqv_Way]; exact h) | exact not_t h | exact h) he | (simp [he] at h))
  · exact ret_bool (decide_eq_true (agree_all ha hll (by simpa using h1))).symm
theorem sEq_Ack (M : Mem) (l l' : List GAck) (A A' : Option Addr) (c c' : Nat) (h : SlR M RAck 3 24 A c l) (h' : SlR M RAck 3 24 A' c' l') : Ans Tryz.prog M 74 #[.slice A l.length c, .slice A' l'.length c'] (.bool (decide (l = l'))) := by
  have hl := h.len
  refine ans_of T (l := [.slice A l.length c, .slice A' l'.length c']) mixed Tryz.func74 rfl (by kernel_rfl) (Nat.le_of_ble_eq_true rfl) ?_
  (conv => whnf)
  refine CondK.mk (fun h1 => ?_) (fun h1 => ?_)
  · refine ret_bool ((decide_eq_false fun he => ?_).symm)
    subst he
    simp at h1
  have hll : l.length = l'.length := by simp at h1; omega
  (conv => whnf)
  refine LoopK.mk {k : Nat // k ≤ l.length ∧ ∀ j : Nat, j < k → l[j]? = l'[j]?} (fun ⟨k, _⟩ => [(0, .v (.slice A l.length c)), (1, .v (.slice A' l'.length c')), (12, .v (.int .i64 (l.length : Int))), (13, .v (.int .i64 (k : Int)))]) (fun _ => []) (fun _ => M) (fun k => l.length - k.1) ⟨0, Nat.zero_le _, fun j hj => absurd hj (by omega)⟩ ⟨⟨⟨rfl, rfl, rfl, rfl, trivial⟩, trivial, rfl, rfl⟩, rfl⟩ ?_
  rintro ⟨k, hk, ha⟩
  (conv => whnf)
  refine CondK.mk (fun h1 => ?_) (fun h1 => ?_)
  · have hlt : k < l.length := by simpa using h1
    have hlt' : k < l'.length := by omega
    have hx := List.getElem?_eq_getElem hlt
    have hy := List.getElem?_eq_getElem hlt'
    obtain ⟨ad, rfl, bnx, x0, x1, x2⟩ := at_Ack h hx
    obtain ⟨ad', rfl, bny, y0, y1, y2⟩ := at_Ack h' hy
    repeat' ((conv => whnf); first | with_reducible refine CondK.tt ?_ | with_reducible refine CondK.ff ?_ | with_reducible refine CondK.not ?_ | refine LdK.mk _ (by assumption) ?_ | refine IdxK.mk _ rfl (by omega) (by omega) ?_ | refine DrawN.q (by kernel_rfl) ?_ | refine CondK.mk (fun h => ?_) (fun h => ?_))
    all_goals first
      | (have he : l[k] = l'[k] := by first | exact of_decide_eq_true (by first | (rw [← eqv_Ack]; exact not_f h) | (rw [← eqv_Ack]; exact h) | exact not_f h | exact h) | (simpa using h)
         exact ⟨⟨k + 1, hlt, agree_step ha (by rw [hx, hy, he])⟩, ⟨⟨rfl, rfl, rfl, look_int (i64_succ (by omega)), trivial⟩, trivial, rfl, rfl⟩, rfl, by simp; omega⟩)
      | (refine ret_bool ?_
         refine (decide_eq_false fun he => ?_).symm
         have he : l[k] = l'[k] := by subst he; rfl
         first | exact of_decide_eq_false (show decide (l[k] = l'[k]) = false by first | (rw [← eqv_Ack]; exact not_t h) | (rw [← eqv_Ack]; exact h) | exact not_t h | exact h) he | (simp [he] at h))
  · exact ret_bool (decide_eq_true (agree_all ha hll (by simpa using h1))).symm
theorem sEq_Got (M : Mem) (l l' : List GGot) (A A' : Option Addr) (c c' : Nat) (h : SlR M RGot 17 160 A c l) (h' : SlR M RGot 17 160 A' c' l') : Ans Tryz.prog M 98 #[.slice A l.length c, .slice A' l'.length c'] (.bool (decide (l = l'))) := by
  have hl := h.len
  refine ans_of T (l := [.slice A l.length c, .slice A' l'.length c']) mixed Tryz.func98 rfl (by kernel_rfl) (Nat.le_of_ble_eq_true rfl) ?_
  (conv => whnf)
  refine CondK.mk (fun h1 => ?_) (fun h1 => ?_)
  · refine ret_bool ((decide_eq_false fun he => ?_).symm)
    subst he
    simp at h1
  have hll : l.length = l'.length := by simp at h1; omega
  (conv => whnf)
  refine LoopK.mk {k : Nat // k ≤ l.length ∧ ∀ j : Nat, j < k → l[j]? = l'[j]?} (fun ⟨k, _⟩ => [(0, .v (.slice A l.length c)), (1, .v (.slice A' l'.length c')), (12, .v (.int .i64 (l.length : Int))), (13, .v (.int .i64 (k : Int)))]) (fun _ => []) (fun _ => M) (fun k => l.length - k.1) ⟨0, Nat.zero_le _, fun j hj => absurd hj (by omega)⟩ ⟨⟨⟨rfl, rfl, rfl, rfl, trivial⟩, trivial, rfl, rfl⟩, rfl⟩ ?_
  rintro ⟨k, hk, ha⟩
  (conv => whnf)
  refine CondK.mk (fun h1 => ?_) (fun h1 => ?_)
  · have hlt : k < l.length := by simpa using h1
    have hlt' : k < l'.length := by omega
    have hx := List.getElem?_eq_getElem hlt
    have hy := List.getElem?_eq_getElem hlt'
    obtain ⟨ad, rfl, bnx, x0, x1, x2, x3, x4, x5, x6, x7, x8, x9, x10, x11, x12, x13, x14, x15, x16⟩ := at_Got h hx
    obtain ⟨ad', rfl, bny, y0, y1, y2, y3, y4, y5, y6, y7, y8, y9, y10, y11, y12, y13, y14, y15, y16⟩ := at_Got h' hy
    repeat' ((conv => whnf); first | with_reducible refine CondK.tt ?_ | with_reducible refine CondK.ff ?_ | with_reducible refine CondK.not ?_ | refine LdK.mk _ (by assumption) ?_ | refine IdxK.mk _ rfl (by omega) (by omega) ?_ | refine DrawN.q (by kernel_rfl) ?_ | refine CondK.mk (fun h => ?_) (fun h => ?_))
    all_goals first
      | (have he : l[k] = l'[k] := by first | exact of_decide_eq_true (by first | (rw [← eqv_Got]; exact not_f h) | (rw [← eqv_Got]; exact h) | exact not_f h | exact h) | (simpa using h)
         exact ⟨⟨k + 1, hlt, agree_step ha (by rw [hx, hy, he])⟩, ⟨⟨rfl, rfl, rfl, look_int (i64_succ (by omega)), trivial⟩, trivial, rfl, rfl⟩, rfl, by simp; omega⟩)
      | (refine ret_bool ?_
         refine (decide_eq_false fun he => ?_).symm
         have he : l[k] = l'[k] := by subst he; rfl
         first | exact of_decide_eq_false (show decide (l[k] = l'[k]) = false by first | (rw [← eqv_Got]; exact not_t h) | (rw [← eqv_Got]; exact h) | exact not_t h | exact h) he | (simp [he] at h))
  · exact ret_bool (decide_eq_true (agree_all ha hll (by simpa using h1))).symm
theorem sEq_Fill (M : Mem) (l l' : List GFill) (A A' : Option Addr) (c c' : Nat) (h : SlR M RFill 7 64 A c l) (h' : SlR M RFill 7 64 A' c' l') : Ans Tryz.prog M 36 #[.slice A l.length c, .slice A' l'.length c'] (.bool (decide (l = l'))) := by
  have hl := h.len
  refine ans_of T (l := [.slice A l.length c, .slice A' l'.length c']) mixed Tryz.func36 rfl (by kernel_rfl) (Nat.le_of_ble_eq_true rfl) ?_
  (conv => whnf)
  refine CondK.mk (fun h1 => ?_) (fun h1 => ?_)
  · refine ret_bool ((decide_eq_false fun he => ?_).symm)
    subst he
    simp at h1
  have hll : l.length = l'.length := by simp at h1; omega
  (conv => whnf)
  refine LoopK.mk {k : Nat // k ≤ l.length ∧ ∀ j : Nat, j < k → l[j]? = l'[j]?} (fun ⟨k, _⟩ => [(0, .v (.slice A l.length c)), (1, .v (.slice A' l'.length c')), (12, .v (.int .i64 (l.length : Int))), (13, .v (.int .i64 (k : Int)))]) (fun _ => []) (fun _ => M) (fun k => l.length - k.1) ⟨0, Nat.zero_le _, fun j hj => absurd hj (by omega)⟩ ⟨⟨⟨rfl, rfl, rfl, rfl, trivial⟩, trivial, rfl, rfl⟩, rfl⟩ ?_
  rintro ⟨k, hk, ha⟩
  (conv => whnf)
  refine CondK.mk (fun h1 => ?_) (fun h1 => ?_)
  · have hlt : k < l.length := by simpa using h1
    have hlt' : k < l'.length := by omega
    have hx := List.getElem?_eq_getElem hlt
    have hy := List.getElem?_eq_getElem hlt'
    obtain ⟨ad, rfl, bnx, x0, x1, x2, x3, x4, x5, x6⟩ := at_Fill h hx
    obtain ⟨ad', rfl, bny, y0, y1, y2, y3, y4, y5, y6⟩ := at_Fill h' hy
    repeat' ((conv => whnf); first | with_reducible refine CondK.tt ?_ | with_reducible refine CondK.ff ?_ | with_reducible refine CondK.not ?_ | refine LdK.mk _ (by assumption) ?_ | refine IdxK.mk _ rfl (by omega) (by omega) ?_ | refine DrawN.q (by kernel_rfl) ?_ | refine CondK.mk (fun h => ?_) (fun h => ?_))
    all_goals first
      | (have he : l[k] = l'[k] := by first | exact of_decide_eq_true (by first | (rw [← eqv_Fill]; exact not_f h) | (rw [← eqv_Fill]; exact h) | exact not_f h | exact h) | (simpa using h)
         exact ⟨⟨k + 1, hlt, agree_step ha (by rw [hx, hy, he])⟩, ⟨⟨rfl, rfl, rfl, look_int (i64_succ (by omega)), trivial⟩, trivial, rfl, rfl⟩, rfl, by simp; omega⟩)
      | (refine ret_bool ?_
         refine (decide_eq_false fun he => ?_).symm
         have he : l[k] = l'[k] := by subst he; rfl
         first | exact of_decide_eq_false (show decide (l[k] = l'[k]) = false by first | (rw [← eqv_Fill]; exact not_t h) | (rw [← eqv_Fill]; exact h) | exact not_t h | exact h) he | (simp [he] at h))
  · exact ret_bool (decide_eq_true (agree_all ha hll (by simpa using h1))).symm
theorem sameState_a (M : Mem) (x y : GPgState) (cs ds : List Value) (h0 : RPgState M x cs) (h0' : RPgState M y ds) : Ans Tryz.prog M 35 #[.agg cs.toArray, .agg ds.toArray] (.bool (decide (x = y))) := by
  obtain ⟨A0, c0, A1, c1, A2, c2, A3, c3, rfl, hb, s0, s1, s2, s3⟩ := h0
  obtain ⟨B0, d0, B1, d1, B2, d2, B3, d3, rfl, hb', t0, t1, t2, t3⟩ := h0'
  refine ans_of T (l := [.agg #[.int .i64 x.Pg.Pool, .int .i64 x.Pg.No, .int .i64 x.Seen, .int .i64 x.Started, .int .i64 x.Tail.Epoch, .int .i64 x.Tail.Seq, .slice A0 x.Base.length c0, .slice A1 x.Clients.length c1, .slice A2 x.Log.length c2, .int .i64 x.Firm.Epoch, .int .i64 x.Firm.Seq, .slice A3 x.Chunks.length c3], .agg #[.int .i64 y.Pg.Pool, .int .i64 y.Pg.No, .int .i64 y.Seen, .int .i64 y.Started, .int .i64 y.Tail.Epoch, .int .i64 y.Tail.Seq, .slice B0 y.Base.length d0, .slice B1 y.Clients.length d1, .slice B2 y.Log.length d2, .int .i64 y.Firm.Epoch, .int .i64 y.Firm.Seq, .slice B3 y.Chunks.length d3]]) mixed Tryz.func35 rfl (by kernel_rfl) (Nat.le_of_ble_eq_true rfl) ?_
  repeat' ((conv => whnf); first | with_reducible refine CondK.tt ?_ | with_reducible refine CondK.ff ?_ | with_reducible refine CondK.not ?_ | refine CallK.mk _ (sEq_Head M _ _ _ _ _ _ s0 t0) ?_ | refine CallQ.mk _ (sEq_Head M _ _ _ _ _ _ s0 t0) ?_ | refine CallK.mk _ (sEq_Last M _ _ _ _ _ _ s1 t1) ?_ | refine CallQ.mk _ (sEq_Last M _ _ _ _ _ _ s1 t1) ?_ | refine CallK.mk _ (sEq_Entry M _ _ _ _ _ _ s2 t2) ?_ | refine CallQ.mk _ (sEq_Entry M _ _ _ _ _ _ s2 t2) ?_ | refine CallK.mk _ (sEq_Chunk M _ _ _ _ _ _ s3 t3) ?_ | refine CallQ.mk _ (sEq_Chunk M _ _ _ _ _ _ s3 t3) ?_ | refine GuardK.mk (fun h => ?_) (fun h => ?_) | refine CondK.mk (fun h => ?_) (fun h => ?_))
  all_goals refine ret_bool ?_
  all_goals (first | (refine (decide_eq_false fun he => ?_).symm; subst he; simp at *; done) | (rw [Bool.eq_iff_iff]; (try simp only [eqv_Pg, eqv_Code, eqv_Ver, eqv_Head, eqv_Last, eqv_Req, eqv_Entry, eqv_Chunk, eqv_Way, eqv_Ack, eqv_Got, eqv_Fill] at *); (try simp only [ba_eq] at *); obtain ⟨_, _, _, _, _, _, _, _, _⟩ := x; obtain ⟨_, _, _, _, _, _, _, _, _⟩ := y; simp_all))
theorem sameWait_a (M : Mem) (x y : GWait) (cs ds : List Value) (h0 : RWait M x cs) (h0' : RWait M y ds) : Ans Tryz.prog M 76 #[.agg cs.toArray, .agg ds.toArray] (.bool (decide (x = y))) := by
  obtain ⟨A0, c0, rfl, hb, s0⟩ := h0
  obtain ⟨B0, d0, rfl, hb', t0⟩ := h0'
  refine ans_of T (l := [.agg #[.int .i64 x.Req.Client, .int .i64 x.Req.No, .string x.Name, .int .i64 x.Ver.Epoch, .int .i64 x.Ver.Seq, .slice A0 x.Got.length c0], .agg #[.int .i64 y.Req.Client, .int .i64 y.Req.No, .string y.Name, .int .i64 y.Ver.Epoch, .int .i64 y.Ver.Seq, .slice B0 y.Got.length d0]]) mixed Tryz.func76 rfl (by kernel_rfl) (Nat.le_of_ble_eq_true rfl) ?_
  repeat' ((conv => whnf); first | with_reducible refine CondK.tt ?_ | with_reducible refine CondK.ff ?_ | with_reducible refine CondK.not ?_ | refine CallK.mk _ (sEq_Got M _ _ _ _ _ _ s0 t0) ?_ | refine CallQ.mk _ (sEq_Got M _ _ _ _ _ _ s0 t0) ?_ | refine GuardK.mk (fun h => ?_) (fun h => ?_) | refine CondK.mk (fun h => ?_) (fun h => ?_))
  all_goals refine ret_bool ?_
  all_goals (first | (refine (decide_eq_false fun he => ?_).symm; subst he; simp at *; done) | (rw [Bool.eq_iff_iff]; (try simp only [eqv_Pg, eqv_Code, eqv_Ver, eqv_Head, eqv_Last, eqv_Req, eqv_Entry, eqv_Chunk, eqv_Way, eqv_Ack, eqv_Got, eqv_Fill] at *); (try simp only [ba_eq] at *); obtain ⟨_, _, _, _⟩ := x; obtain ⟨_, _, _, _⟩ := y; simp_all))
theorem l25SameState_a (M : Mem) (x y : GPgState) (cs ds : List Value) (h0 : RPgState M x cs) (h0' : RPgState M y ds) : Ans Tryz.prog M 19 #[.agg cs.toArray, .agg ds.toArray] (.bool (decide (x = y))) := by
  obtain ⟨A0, c0, A1, c1, A2, c2, A3, c3, rfl, hb, s0, s1, s2, s3⟩ := h0
  obtain ⟨B0, d0, B1, d1, B2, d2, B3, d3, rfl, hb', t0, t1, t2, t3⟩ := h0'
  refine ans_of T (l := [.agg #[.int .i64 x.Pg.Pool, .int .i64 x.Pg.No, .int .i64 x.Seen, .int .i64 x.Started, .int .i64 x.Tail.Epoch, .int .i64 x.Tail.Seq, .slice A0 x.Base.length c0, .slice A1 x.Clients.length c1, .slice A2 x.Log.length c2, .int .i64 x.Firm.Epoch, .int .i64 x.Firm.Seq, .slice A3 x.Chunks.length c3], .agg #[.int .i64 y.Pg.Pool, .int .i64 y.Pg.No, .int .i64 y.Seen, .int .i64 y.Started, .int .i64 y.Tail.Epoch, .int .i64 y.Tail.Seq, .slice B0 y.Base.length d0, .slice B1 y.Clients.length d1, .slice B2 y.Log.length d2, .int .i64 y.Firm.Epoch, .int .i64 y.Firm.Seq, .slice B3 y.Chunks.length d3]]) mixed Tryz.func19 rfl (by kernel_rfl) (Nat.le_of_ble_eq_true rfl) ?_
  repeat' ((conv => whnf); first | with_reducible refine CondK.tt ?_ | with_reducible refine CondK.ff ?_ | with_reducible refine CondK.not ?_ | refine GuardK.mk (fun h => ?_) (fun h => ?_) | refine CondK.mk (fun h => ?_) (fun h => ?_))
  all_goals try (refine ret_bool ?_; focus (first | (refine (decide_eq_false fun he => ?_).symm; subst he; simp at *; done) | (rw [Bool.eq_iff_iff]; (try simp only [eqv_Pg, eqv_Code, eqv_Ver, eqv_Head, eqv_Last, eqv_Req, eqv_Entry, eqv_Chunk, eqv_Way, eqv_Ack, eqv_Got, eqv_Fill] at *); (try simp only [ba_eq] at *); obtain ⟨_, _, _, _, _, _, _, _, _⟩ := x; obtain ⟨_, _, _, _, _, _, _, _, _⟩ := y; simp_all)); done)
  have hl := s0.len
  have hll : x.Base.length = y.Base.length := by (try clear ha); (try clear h1); simp at *; omega
  refine LoopK.mk {k : Nat // k ≤ x.Base.length ∧ ∀ j : Nat, j < k → x.Base[j]? = y.Base[j]?} (fun ⟨k, _⟩ => [(2, .p 0 0), (3, .p 1 0), (5, .v (.int .i64 (k : Int)))]) (fun _ => [(1, [.int .i64 y.Pg.Pool, .int .i64 y.Pg.No, .int .i64 y.Seen, .int .i64 y.Started, .int .i64 y.Tail.Epoch, .int .i64 y.Tail.Seq, .slice B0 y.Base.length d0, .slice B1 y.Clients.length d1, .slice B2 y.Log.length d2, .int .i64 y.Firm.Epoch, .int .i64 y.Firm.Seq, .slice B3 y.Chunks.length d3]), (0, [.int .i64 x.Pg.Pool, .int .i64 x.Pg.No, .int .i64 x.Seen, .int .i64 x.Started, .int .i64 x.Tail.Epoch, .int .i64 x.Tail.Seq, .slice A0 x.Base.length c0, .slice A1 x.Clients.length c1, .slice A2 x.Log.length c2, .int .i64 x.Firm.Epoch, .int .i64 x.Firm.Seq, .slice A3 x.Chunks.length c3])]) (fun _ => M) (fun k => x.Base.length - k.1) ⟨0, Nat.zero_le _, fun j hj => absurd hj (by omega)⟩ ⟨⟨⟨rfl, rfl, rfl, trivial⟩, ⟨rfl, rfl, trivial⟩, rfl, rfl⟩, rfl⟩ ?_
  rintro ⟨k, hk, ha⟩
  (conv => whnf)
  refine CondK.mk (fun h1 => ?_) (fun h1 => ?_)
  · have hlt : k < x.Base.length := by simpa using h1
    have hlt' : k < y.Base.length := by omega
    have hx := List.getElem?_eq_getElem hlt
    have hy := List.getElem?_eq_getElem hlt'
    obtain ⟨ad, rfl, bnx, x0, x1, x2, x3, x4⟩ := at_Head s0 hx
    obtain ⟨ad', rfl, bny, y0, y1, y2, y3, y4⟩ := at_Head t0 hy
    repeat' ((conv => whnf); first | with_reducible refine CondK.tt ?_ | with_reducible refine CondK.ff ?_ | with_reducible refine CondK.not ?_ | refine LdK.mk _ (by assumption) ?_ | refine IdxK.mk _ rfl (by omega) (by omega) ?_ | refine DrawN.q (by kernel_rfl) ?_ | refine CondK.mk (fun h => ?_) (fun h => ?_))
    all_goals first
      | (have he : x.Base[k] = y.Base[k] := by first | exact of_decide_eq_true (by first | (rw [← eqv_Head]; exact not_f h) | (rw [← eqv_Head]; exact h) | exact not_f h | exact h) | (simpa using h)
         exact ⟨⟨k + 1, hlt, agree_step ha (by rw [hx, hy, he])⟩, ⟨⟨rfl, rfl, look_int (i64_succ (by omega)), trivial⟩, ⟨rfl, rfl, trivial⟩, rfl, rfl⟩, rfl, by simp; omega⟩)
      | (refine ret_bool ?_
         refine (decide_eq_false fun he => ?_).symm
         have he : x.Base[k] = y.Base[k] := by subst he; rfl
         first | exact of_decide_eq_false (show decide (x.Base[k] = y.Base[k]) = false by first | (rw [← eqv_Head]; exact not_t h) | (rw [← eqv_Head]; exact h) | exact not_t h | exact h) he | (simp [he] at h))
  have g0 : x.Base = y.Base := agree_all ha hll (by simpa using h1)
  (conv => whnf)
  have hl := s1.len
  have hll : x.Clients.length = y.Clients.length := by (try clear ha); (try clear h1); simp at *; omega
  refine LoopK.mk {k : Nat // k ≤ x.Clients.length ∧ ∀ j : Nat, j < k → x.Clients[j]? = y.Clients[j]?} (fun ⟨k, _⟩ => [(2, .p 0 0), (3, .p 1 0), (6, .v (.int .i64 (k : Int)))]) (fun _ => [(1, [.int .i64 y.Pg.Pool, .int .i64 y.Pg.No, .int .i64 y.Seen, .int .i64 y.Started, .int .i64 y.Tail.Epoch, .int .i64 y.Tail.Seq, .slice B0 y.Base.length d0, .slice B1 y.Clients.length d1, .slice B2 y.Log.length d2, .int .i64 y.Firm.Epoch, .int .i64 y.Firm.Seq, .slice B3 y.Chunks.length d3]), (0, [.int .i64 x.Pg.Pool, .int .i64 x.Pg.No, .int .i64 x.Seen, .int .i64 x.Started, .int .i64 x.Tail.Epoch, .int .i64 x.Tail.Seq, .slice A0 x.Base.length c0, .slice A1 x.Clients.length c1, .slice A2 x.Log.length c2, .int .i64 x.Firm.Epoch, .int .i64 x.Firm.Seq, .slice A3 x.Chunks.length c3])]) (fun _ => M) (fun k => x.Clients.length - k.1) ⟨0, Nat.zero_le _, fun j hj => absurd hj (by omega)⟩ ⟨⟨⟨rfl, rfl, rfl, trivial⟩, ⟨rfl, rfl, trivial⟩, rfl, rfl⟩, rfl⟩ ?_
  rintro ⟨k, hk, ha⟩
  (conv => whnf)
  refine CondK.mk (fun h1 => ?_) (fun h1 => ?_)
  · have hlt : k < x.Clients.length := by simpa using h1
    have hlt' : k < y.Clients.length := by omega
    have hx := List.getElem?_eq_getElem hlt
    have hy := List.getElem?_eq_getElem hlt'
    obtain ⟨ad, rfl, bnx, x0, x1, x2, x3⟩ := at_Last s1 hx
    obtain ⟨ad', rfl, bny, y0, y1, y2, y3⟩ := at_Last t1 hy
    repeat' ((conv => whnf); first | with_reducible refine CondK.tt ?_ | with_reducible refine CondK.ff ?_ | with_reducible refine CondK.not ?_ | refine LdK.mk _ (by assumption) ?_ | refine IdxK.mk _ rfl (by omega) (by omega) ?_ | refine DrawN.q (by kernel_rfl) ?_ | refine CondK.mk (fun h => ?_) (fun h => ?_))
    all_goals first
      | (have he : x.Clients[k] = y.Clients[k] := by first | exact of_decide_eq_true (by first | (rw [← eqv_Last]; exact not_f h) | (rw [← eqv_Last]; exact h) | exact not_f h | exact h) | (simpa using h)
         exact ⟨⟨k + 1, hlt, agree_step ha (by rw [hx, hy, he])⟩, ⟨⟨rfl, rfl, look_int (i64_succ (by omega)), trivial⟩, ⟨rfl, rfl, trivial⟩, rfl, rfl⟩, rfl, by simp; omega⟩)
      | (refine ret_bool ?_
         refine (decide_eq_false fun he => ?_).symm
         have he : x.Clients[k] = y.Clients[k] := by subst he; rfl
         first | exact of_decide_eq_false (show decide (x.Clients[k] = y.Clients[k]) = false by first | (rw [← eqv_Last]; exact not_t h) | (rw [← eqv_Last]; exact h) | exact not_t h | exact h) he | (simp [he] at h))
  have g1 : x.Clients = y.Clients := agree_all ha hll (by simpa using h1)
  (conv => whnf)
  have hl := s2.len
  have hll : x.Log.length = y.Log.length := by (try clear ha); (try clear h1); simp at *; omega
  refine LoopK.mk {k : Nat // k ≤ x.Log.length ∧ ∀ j : Nat, j < k → x.Log[j]? = y.Log[j]?} (fun ⟨k, _⟩ => [(2, .p 0 0), (3, .p 1 0), (7, .v (.int .i64 (k : Int)))]) (fun _ => [(1, [.int .i64 y.Pg.Pool, .int .i64 y.Pg.No, .int .i64 y.Seen, .int .i64 y.Started, .int .i64 y.Tail.Epoch, .int .i64 y.Tail.Seq, .slice B0 y.Base.length d0, .slice B1 y.Clients.length d1, .slice B2 y.Log.length d2, .int .i64 y.Firm.Epoch, .int .i64 y.Firm.Seq, .slice B3 y.Chunks.length d3]), (0, [.int .i64 x.Pg.Pool, .int .i64 x.Pg.No, .int .i64 x.Seen, .int .i64 x.Started, .int .i64 x.Tail.Epoch, .int .i64 x.Tail.Seq, .slice A0 x.Base.length c0, .slice A1 x.Clients.length c1, .slice A2 x.Log.length c2, .int .i64 x.Firm.Epoch, .int .i64 x.Firm.Seq, .slice A3 x.Chunks.length c3])]) (fun _ => M) (fun k => x.Log.length - k.1) ⟨0, Nat.zero_le _, fun j hj => absurd hj (by omega)⟩ ⟨⟨⟨rfl, rfl, rfl, trivial⟩, ⟨rfl, rfl, trivial⟩, rfl, rfl⟩, rfl⟩ ?_
  rintro ⟨k, hk, ha⟩
  (conv => whnf)
  refine CondK.mk (fun h1 => ?_) (fun h1 => ?_)
  · have hlt : k < x.Log.length := by simpa using h1
    have hlt' : k < y.Log.length := by omega
    have hx := List.getElem?_eq_getElem hlt
    have hy := List.getElem?_eq_getElem hlt'
    obtain ⟨ad, rfl, bnx, x0, x1, x2, x3, x4, x5, x6, x7, x8, x9⟩ := at_Entry s2 hx
    obtain ⟨ad', rfl, bny, y0, y1, y2, y3, y4, y5, y6, y7, y8, y9⟩ := at_Entry t2 hy
    repeat' ((conv => whnf); first | with_reducible refine CondK.tt ?_ | with_reducible refine CondK.ff ?_ | with_reducible refine CondK.not ?_ | refine LdK.mk _ (by assumption) ?_ | refine IdxK.mk _ rfl (by omega) (by omega) ?_ | refine DrawN.q (by kernel_rfl) ?_ | refine CondK.mk (fun h => ?_) (fun h => ?_))
    all_goals first
      | (have he : x.Log[k] = y.Log[k] := by first | exact of_decide_eq_true (by first | (rw [← eqv_Entry]; exact not_f h) | (rw [← eqv_Entry]; exact h) | exact not_f h | exact h) | (simpa using h)
         exact ⟨⟨k + 1, hlt, agree_step ha (by rw [hx, hy, he])⟩, ⟨⟨rfl, rfl, look_int (i64_succ (by omega)), trivial⟩, ⟨rfl, rfl, trivial⟩, rfl, rfl⟩, rfl, by simp; omega⟩)
      | (refine ret_bool ?_
         refine (decide_eq_false fun he => ?_).symm
         have he : x.Log[k] = y.Log[k] := by subst he; rfl
         first | exact of_decide_eq_false (show decide (x.Log[k] = y.Log[k]) = false by first | (rw [← eqv_Entry]; exact not_t h) | (rw [← eqv_Entry]; exact h) | exact not_t h | exact h) he | (simp [he] at h))
  have g2 : x.Log = y.Log := agree_all ha hll (by simpa using h1)
  (conv => whnf)
  have hl := s3.len
  have hll : x.Chunks.length = y.Chunks.length := by (try clear ha); (try clear h1); simp at *; omega
  refine LoopK.mk {k : Nat // k ≤ x.Chunks.length ∧ ∀ j : Nat, j < k → x.Chunks[j]? = y.Chunks[j]?} (fun ⟨k, _⟩ => [(2, .p 0 0), (3, .p 1 0), (8, .v (.int .i64 (k : Int)))]) (fun _ => [(1, [.int .i64 y.Pg.Pool, .int .i64 y.Pg.No, .int .i64 y.Seen, .int .i64 y.Started, .int .i64 y.Tail.Epoch, .int .i64 y.Tail.Seq, .slice B0 y.Base.length d0, .slice B1 y.Clients.length d1, .slice B2 y.Log.length d2, .int .i64 y.Firm.Epoch, .int .i64 y.Firm.Seq, .slice B3 y.Chunks.length d3]), (0, [.int .i64 x.Pg.Pool, .int .i64 x.Pg.No, .int .i64 x.Seen, .int .i64 x.Started, .int .i64 x.Tail.Epoch, .int .i64 x.Tail.Seq, .slice A0 x.Base.length c0, .slice A1 x.Clients.length c1, .slice A2 x.Log.length c2, .int .i64 x.Firm.Epoch, .int .i64 x.Firm.Seq, .slice A3 x.Chunks.length c3])]) (fun _ => M) (fun k => x.Chunks.length - k.1) ⟨0, Nat.zero_le _, fun j hj => absurd hj (by omega)⟩ ⟨⟨⟨rfl, rfl, rfl, trivial⟩, ⟨rfl, rfl, trivial⟩, rfl, rfl⟩, rfl⟩ ?_
  rintro ⟨k, hk, ha⟩
  (conv => whnf)
  refine CondK.mk (fun h1 => ?_) (fun h1 => ?_)
  · have hlt : k < x.Chunks.length := by simpa using h1
    have hlt' : k < y.Chunks.length := by omega
    have hx := List.getElem?_eq_getElem hlt
    have hy := List.getElem?_eq_getElem hlt'
    obtain ⟨ad, rfl, bnx, x0, x1, x2, x3, x4, x5⟩ := at_Chunk s3 hx
    obtain ⟨ad', rfl, bny, y0, y1, y2, y3, y4, y5⟩ := at_Chunk t3 hy
    repeat' ((conv => whnf); first | with_reducible refine CondK.tt ?_ | with_reducible refine CondK.ff ?_ | with_reducible refine CondK.not ?_ | refine LdK.mk _ (by assumption) ?_ | refine IdxK.mk _ rfl (by omega) (by omega) ?_ | refine DrawN.q (by kernel_rfl) ?_ | refine CondK.mk (fun h => ?_) (fun h => ?_))
    all_goals first
      | (have he : x.Chunks[k] = y.Chunks[k] := by first | exact of_decide_eq_true (by first | (rw [← eqv_Chunk]; exact not_f h) | (rw [← eqv_Chunk]; exact h) | exact not_f h | exact h) | (simpa using h)
         exact ⟨⟨k + 1, hlt, agree_step ha (by rw [hx, hy, he])⟩, ⟨⟨rfl, rfl, look_int (i64_succ (by omega)), trivial⟩, ⟨rfl, rfl, trivial⟩, rfl, rfl⟩, rfl, by simp; omega⟩)
      | (refine ret_bool ?_
         refine (decide_eq_false fun he => ?_).symm
         have he : x.Chunks[k] = y.Chunks[k] := by subst he; rfl
         first | exact of_decide_eq_false (show decide (x.Chunks[k] = y.Chunks[k]) = false by first | (rw [← eqv_Chunk]; exact not_t h) | (rw [← eqv_Chunk]; exact h) | exact not_t h | exact h) he | (simp [he] at h))
  have g3 : x.Chunks = y.Chunks := agree_all ha hll (by simpa using h1)
  (conv => whnf)
  refine ret_bool ?_
  (try simp only [eqv_Pg, eqv_Code, eqv_Ver, eqv_Head, eqv_Last, eqv_Req, eqv_Entry, eqv_Chunk, eqv_Way, eqv_Ack, eqv_Got, eqv_Fill] at *)
  (try simp only [ba_eq] at *)
  obtain ⟨_, _, _, _, _, _, _, _, _⟩ := x
  obtain ⟨_, _, _, _, _, _, _, _, _⟩ := y
  simp_all
theorem l25SameWait_a (M : Mem) (x y : GWait) (cs ds : List Value) (h0 : RWait M x cs) (h0' : RWait M y ds) : Ans Tryz.prog M 58 #[.agg cs.toArray, .agg ds.toArray] (.bool (decide (x = y))) := by
  obtain ⟨A0, c0, rfl, hb, s0⟩ := h0
  obtain ⟨B0, d0, rfl, hb', t0⟩ := h0'
  refine ans_of T (l := [.agg #[.int .i64 x.Req.Client, .int .i64 x.Req.No, .string x.Name, .int .i64 x.Ver.Epoch, .int .i64 x.Ver.Seq, .slice A0 x.Got.length c0], .agg #[.int .i64 y.Req.Client, .int .i64 y.Req.No, .string y.Name, .int .i64 y.Ver.Epoch, .int .i64 y.Ver.Seq, .slice B0 y.Got.length d0]]) mixed Tryz.func58 rfl (by kernel_rfl) (Nat.le_of_ble_eq_true rfl) ?_
  repeat' ((conv => whnf); first | with_reducible refine CondK.tt ?_ | with_reducible refine CondK.ff ?_ | with_reducible refine CondK.not ?_ | refine GuardK.mk (fun h => ?_) (fun h => ?_) | refine CondK.mk (fun h => ?_) (fun h => ?_))
  all_goals try (refine ret_bool ?_; focus (first | (refine (decide_eq_false fun he => ?_).symm; subst he; simp at *; done) | (rw [Bool.eq_iff_iff]; (try simp only [eqv_Pg, eqv_Code, eqv_Ver, eqv_Head, eqv_Last, eqv_Req, eqv_Entry, eqv_Chunk, eqv_Way, eqv_Ack, eqv_Got, eqv_Fill] at *); (try simp only [ba_eq] at *); obtain ⟨_, _, _, _⟩ := x; obtain ⟨_, _, _, _⟩ := y; simp_all)); done)
  have hl := s0.len
  have hll : x.Got.length = y.Got.length := by (try clear ha); (try clear h1); simp at *; omega
  refine LoopK.mk {k : Nat // k ≤ x.Got.length ∧ ∀ j : Nat, j < k → x.Got[j]? = y.Got[j]?} (fun ⟨k, _⟩ => [(2, .p 0 0), (3, .p 1 0), (5, .v (.int .i64 (k : Int)))]) (fun _ => [(1, [.int .i64 y.Req.Client, .int .i64 y.Req.No, .string y.Name, .int .i64 y.Ver.Epoch, .int .i64 y.Ver.Seq, .slice B0 y.Got.length d0]), (0, [.int .i64 x.Req.Client, .int .i64 x.Req.No, .string x.Name, .int .i64 x.Ver.Epoch, .int .i64 x.Ver.Seq, .slice A0 x.Got.length c0])]) (fun _ => M) (fun k => x.Got.length - k.1) ⟨0, Nat.zero_le _, fun j hj => absurd hj (by omega)⟩ ⟨⟨⟨rfl, rfl, rfl, trivial⟩, ⟨rfl, rfl, trivial⟩, rfl, rfl⟩, rfl⟩ ?_
  rintro ⟨k, hk, ha⟩
  (conv => whnf)
  refine CondK.mk (fun h1 => ?_) (fun h1 => ?_)
  · have hlt : k < x.Got.length := by simpa using h1
    have hlt' : k < y.Got.length := by omega
    have hx := List.getElem?_eq_getElem hlt
    have hy := List.getElem?_eq_getElem hlt'
    obtain ⟨ad, rfl, bnx, x0, x1, x2, x3, x4, x5, x6, x7, x8, x9, x10, x11, x12, x13, x14, x15, x16⟩ := at_Got s0 hx
    obtain ⟨ad', rfl, bny, y0, y1, y2, y3, y4, y5, y6, y7, y8, y9, y10, y11, y12, y13, y14, y15, y16⟩ := at_Got t0 hy
    repeat' ((conv => whnf); first | with_reducible refine CondK.tt ?_ | with_reducible refine CondK.ff ?_ | with_reducible refine CondK.not ?_ | refine LdK.mk _ (by assumption) ?_ | refine IdxK.mk _ rfl (by omega) (by omega) ?_ | refine DrawN.q (by kernel_rfl) ?_ | refine CondK.mk (fun h => ?_) (fun h => ?_))
    all_goals first
      | (have he : x.Got[k] = y.Got[k] := by first | exact of_decide_eq_true (by first | (rw [← eqv_Got]; exact not_f h) | (rw [← eqv_Got]; exact h) | exact not_f h | exact h) | (simpa using h)
         exact ⟨⟨k + 1, hlt, agree_step ha (by rw [hx, hy, he])⟩, ⟨⟨rfl, rfl, look_int (i64_succ (by omega)), trivial⟩, ⟨rfl, rfl, trivial⟩, rfl, rfl⟩, rfl, by simp; omega⟩)
      | (refine ret_bool ?_
         refine (decide_eq_false fun he => ?_).symm
         have he : x.Got[k] = y.Got[k] := by subst he; rfl
         first | exact of_decide_eq_false (show decide (x.Got[k] = y.Got[k]) = false by first | (rw [← eqv_Got]; exact not_t h) | (rw [← eqv_Got]; exact h) | exact not_t h | exact h) he | (simp [he] at h))
  have g0 : x.Got = y.Got := agree_all ha hll (by simpa using h1)
  (conv => whnf)
  refine ret_bool ?_
  (try simp only [eqv_Pg, eqv_Code, eqv_Ver, eqv_Head, eqv_Last, eqv_Req, eqv_Entry, eqv_Chunk, eqv_Way, eqv_Ack, eqv_Got, eqv_Fill] at *)
  (try simp only [ba_eq] at *)
  obtain ⟨_, _, _, _⟩ := x
  obtain ⟨_, _, _, _⟩ := y
  simp_all
theorem eqFunc_Wait (M : Mem) (l l' : List GWait) (A A' : Option Addr) (c c' : Nat) (h : SlR M RWait 6 72 A c l) (h' : SlR M RWait 6 72 A' c' l') : Ans Tryz.prog M 75 #[.slice A l.length c, .slice A' l'.length c', .func (.func 76) #[] #[]] (.bool (decide (l = l'))) := by
  have hl := h.len
  refine ans_of T (l := [.slice A l.length c, .slice A' l'.length c', .func (.func 76) #[] #[]]) mixed Tryz.func75 rfl (by kernel_rfl) (Nat.le_of_ble_eq_true rfl) ?_
  (conv => whnf)
  refine CondK.mk (fun h1 => ?_) (fun h1 => ?_)
  · refine ret_bool ((decide_eq_false fun he => ?_).symm)
    subst he
    simp at h1
  have hll : l.length = l'.length := by simp at h1; omega
  (conv => whnf)
  refine LoopK.mk {k : Nat // k ≤ l.length ∧ ∀ j : Nat, j < k → l[j]? = l'[j]?} (fun ⟨k, _⟩ => [(0, .v (.slice A l.length c)), (1, .v (.slice A' l'.length c')), (2, .v (.func (.func 76) #[] #[])), (15, .v (.slice A l.length c)), (16, .v (.int .i64 (l.length : Int))), (17, .v (.int .i64 (k : Int)))]) (fun _ => []) (fun _ => M) (fun k => l.length - k.1) ⟨0, Nat.zero_le _, fun j hj => absurd hj (by omega)⟩ ⟨⟨⟨rfl, rfl, rfl, rfl, rfl, rfl, trivial⟩, trivial, rfl, rfl⟩, rfl⟩ ?_
  rintro ⟨k, hk, ha⟩
  (conv => whnf)
  refine CondK.mk (fun h1 => ?_) (fun h1 => ?_)
  · have hlt : k < l.length := by simpa using h1
    have hlt' : k < l'.length := by omega
    have hx := List.getElem?_eq_getElem hlt
    have hy := List.getElem?_eq_getElem hlt'
    obtain ⟨ad, rfl, A0, c0, bnx, s0, x0, x1, x2, x3, x4, x5⟩ := at_Wait h hx
    obtain ⟨ad', rfl, B0, d0, bny, t0, y0, y1, y2, y3, y4, y5⟩ := at_Wait h' hy
    repeat' ((conv => whnf); first | with_reducible refine CondK.tt ?_ | with_reducible refine CondK.ff ?_ | with_reducible refine CondK.not ?_ | refine LdK.mk _ (by assumption) ?_ | refine IdxK.mk _ rfl (by omega) (by omega) ?_ | refine DrawN.q (by kernel_rfl) ?_ | refine CallK.mk _ (sameWait_a M l[k] l'[k] _ _ ⟨_, _, rfl, bnx, s0⟩ ⟨_, _, rfl, bny, t0⟩) ?_ | refine CallQ.mk _ (sameWait_a M l[k] l'[k] _ _ ⟨_, _, rfl, bnx, s0⟩ ⟨_, _, rfl, bny, t0⟩) ?_ | refine CondK.mk (fun h => ?_) (fun h => ?_))
    all_goals first
      | (have he : l[k] = l'[k] := by first | exact of_decide_eq_true (by first | (rw [← eqv_Ver]; exact not_f h) | (rw [← eqv_Ver]; exact h) | exact not_f h | exact h) | (simpa using h)
         exact ⟨⟨k + 1, hlt, agree_step ha (by rw [hx, hy, he])⟩, ⟨⟨rfl, rfl, rfl, rfl, rfl, look_int (i64_succ (by omega)), trivial⟩, trivial, rfl, rfl⟩, rfl, by simp; omega⟩)
      | (refine ret_bool ?_
         refine (decide_eq_false fun he => ?_).symm
         have he : l[k] = l'[k] := by subst he; rfl
         first | exact of_decide_eq_false (show decide (l[k] = l'[k]) = false by first | (rw [← eqv_Ver]; exact not_t h) | (rw [← eqv_Ver]; exact h) | exact not_t h | exact h) he | (simp [he] at h))
  · exact ret_bool (decide_eq_true (agree_all ha hll (by simpa using h1))).symm
theorem SameLine_a (M : Mem) (x y : GLine) (cs ds : List Value) (h0 : RLine M x cs) (h0' : RLine M y ds) : Ans Tryz.prog M 38 #[.agg cs.toArray, .agg ds.toArray] (.bool (decide (x = y))) := by
  obtain ⟨A0, c0, A1, c1, A2, c2, A3, c3, A4, c4, A5, c5, A6, c6, A7, c7, rfl, hb, s0, s1, s2, s3, s4, s5, s6, s7⟩ := h0
  obtain ⟨B0, d0, B1, d1, B2, d2, B3, d3, B4, d4, B5, d5, B6, d6, B7, d7, rfl, hb', t0, t1, t2, t3, t4, t5, t6, t7⟩ := h0'
  refine ans_of T (l := [.agg #[.int .i64 x.Epoch, .int .i64 x.Code.K, .int .i64 x.Code.M, .slice A0 x.Acting.length c0, .int .i64 x.State.Pg.Pool, .int .i64 x.State.Pg.No, .int .i64 x.State.Seen, .int .i64 x.State.Started, .int .i64 x.State.Tail.Epoch, .int .i64 x.State.Tail.Seq, .slice A1 x.State.Base.length c1, .slice A2 x.State.Clients.length c2, .slice A3 x.State.Log.length c3, .int .i64 x.State.Firm.Epoch, .int .i64 x.State.Firm.Seq, .slice A4 x.State.Chunks.length c4, .slice A5 x.Way.length c5, .slice A6 x.Acks.length c6, .slice A7 x.Waits.length c7], .agg #[.int .i64 y.Epoch, .int .i64 y.Code.K, .int .i64 y.Code.M, .slice B0 y.Acting.length d0, .int .i64 y.State.Pg.Pool, .int .i64 y.State.Pg.No, .int .i64 y.State.Seen, .int .i64 y.State.Started, .int .i64 y.State.Tail.Epoch, .int .i64 y.State.Tail.Seq, .slice B1 y.State.Base.length d1, .slice B2 y.State.Clients.length d2, .slice B3 y.State.Log.length d3, .int .i64 y.State.Firm.Epoch, .int .i64 y.State.Firm.Seq, .slice B4 y.State.Chunks.length d4, .slice B5 y.Way.length d5, .slice B6 y.Acks.length d6, .slice B7 y.Waits.length d7]]) mixed Tryz.func38 rfl (by kernel_rfl) (Nat.le_of_ble_eq_true rfl) ?_
  repeat' ((conv => whnf); first | with_reducible refine CondK.tt ?_ | with_reducible refine CondK.ff ?_ | with_reducible refine CondK.not ?_ | refine CallK.mk _ (sEq_Int64 M _ _ _ _ _ _ s0 t0) ?_ | refine CallQ.mk _ (sEq_Int64 M _ _ _ _ _ _ s0 t0) ?_ | refine CallK.mk _ (sameState_a M x.State y.State _ _ ⟨_, _, _, _, _, _, _, _, rfl, trivial, s1, s2, s3, s4⟩ ⟨_, _, _, _, _, _, _, _, rfl, trivial, t1, t2, t3, t4⟩) ?_ | refine CallQ.mk _ (sameState_a M x.State y.State _ _ ⟨_, _, _, _, _, _, _, _, rfl, trivial, s1, s2, s3, s4⟩ ⟨_, _, _, _, _, _, _, _, rfl, trivial, t1, t2, t3, t4⟩) ?_ | refine CallK.mk _ (sEq_Way M _ _ _ _ _ _ s5 t5) ?_ | refine CallQ.mk _ (sEq_Way M _ _ _ _ _ _ s5 t5) ?_ | refine CallK.mk _ (sEq_Ack M _ _ _ _ _ _ s6 t6) ?_ | refine CallQ.mk _ (sEq_Ack M _ _ _ _ _ _ s6 t6) ?_ | refine CallK.mk _ (eqFunc_Wait M _ _ _ _ _ _ s7 t7) ?_ | refine CallQ.mk _ (eqFunc_Wait M _ _ _ _ _ _ s7 t7) ?_ | refine GuardK.mk (fun h => ?_) (fun h => ?_) | refine CondK.mk (fun h => ?_) (fun h => ?_))
  all_goals refine ret_bool ?_
  all_goals (first | (refine (decide_eq_false fun he => ?_).symm; subst he; simp at *; done) | (rw [Bool.eq_iff_iff]; (try simp only [eqv_Pg, eqv_Code, eqv_Ver, eqv_Head, eqv_Last, eqv_Req, eqv_Entry, eqv_Chunk, eqv_Way, eqv_Ack, eqv_Got, eqv_Fill] at *); (try simp only [ba_eq] at *); obtain ⟨_, _, _, _, _, _, _⟩ := x; obtain ⟨_, _, _, _, _, _, _⟩ := y; simp_all))
theorem specSameLine_a (M : Mem) (x y : GLine) (cs ds : List Value) (h0 : RLine M x cs) (h0' : RLine M y ds) : Ans Tryz.prog M 20 #[.agg cs.toArray, .agg ds.toArray] (.bool (decide (x = y))) := by
  obtain ⟨A0, c0, A1, c1, A2, c2, A3, c3, A4, c4, A5, c5, A6, c6, A7, c7, rfl, hb, s0, s1, s2, s3, s4, s5, s6, s7⟩ := h0
  obtain ⟨B0, d0, B1, d1, B2, d2, B3, d3, B4, d4, B5, d5, B6, d6, B7, d7, rfl, hb', t0, t1, t2, t3, t4, t5, t6, t7⟩ := h0'
  refine ans_of T (l := [.agg #[.int .i64 x.Epoch, .int .i64 x.Code.K, .int .i64 x.Code.M, .slice A0 x.Acting.length c0, .int .i64 x.State.Pg.Pool, .int .i64 x.State.Pg.No, .int .i64 x.State.Seen, .int .i64 x.State.Started, .int .i64 x.State.Tail.Epoch, .int .i64 x.State.Tail.Seq, .slice A1 x.State.Base.length c1, .slice A2 x.State.Clients.length c2, .slice A3 x.State.Log.length c3, .int .i64 x.State.Firm.Epoch, .int .i64 x.State.Firm.Seq, .slice A4 x.State.Chunks.length c4, .slice A5 x.Way.length c5, .slice A6 x.Acks.length c6, .slice A7 x.Waits.length c7], .agg #[.int .i64 y.Epoch, .int .i64 y.Code.K, .int .i64 y.Code.M, .slice B0 y.Acting.length d0, .int .i64 y.State.Pg.Pool, .int .i64 y.State.Pg.No, .int .i64 y.State.Seen, .int .i64 y.State.Started, .int .i64 y.State.Tail.Epoch, .int .i64 y.State.Tail.Seq, .slice B1 y.State.Base.length d1, .slice B2 y.State.Clients.length d2, .slice B3 y.State.Log.length d3, .int .i64 y.State.Firm.Epoch, .int .i64 y.State.Firm.Seq, .slice B4 y.State.Chunks.length d4, .slice B5 y.Way.length d5, .slice B6 y.Acks.length d6, .slice B7 y.Waits.length d7]]) mixed Tryz.func20 rfl (by kernel_rfl) (Nat.le_of_ble_eq_true rfl) ?_
  repeat' ((conv => whnf); first | with_reducible refine CondK.tt ?_ | with_reducible refine CondK.ff ?_ | with_reducible refine CondK.not ?_ | refine CallK.mk _ (l00Same_a M _ _ _ _ _ _ s0 t0) ?_ | refine CallQ.mk _ (l00Same_a M _ _ _ _ _ _ s0 t0) ?_ | refine CallK.mk _ (l25SameState_a M x.State y.State _ _ ⟨_, _, _, _, _, _, _, _, rfl, trivial, s1, s2, s3, s4⟩ ⟨_, _, _, _, _, _, _, _, rfl, trivial, t1, t2, t3, t4⟩) ?_ | refine CallQ.mk _ (l25SameState_a M x.State y.State _ _ ⟨_, _, _, _, _, _, _, _, rfl, trivial, s1, s2, s3, s4⟩ ⟨_, _, _, _, _, _, _, _, rfl, trivial, t1, t2, t3, t4⟩) ?_ | refine GuardK.mk (fun h => ?_) (fun h => ?_) | refine CondK.mk (fun h => ?_) (fun h => ?_))
  all_goals try (refine ret_bool ?_; focus (first | (refine (decide_eq_false fun he => ?_).symm; subst he; simp at *; done) | (rw [Bool.eq_iff_iff]; (try simp only [eqv_Pg, eqv_Code, eqv_Ver, eqv_Head, eqv_Last, eqv_Req, eqv_Entry, eqv_Chunk, eqv_Way, eqv_Ack, eqv_Got, eqv_Fill] at *); (try simp only [ba_eq] at *); obtain ⟨_, _, _, _, _, _, _⟩ := x; obtain ⟨_, _, _, _, _, _, _⟩ := y; simp_all)); done)
  have hl := s5.len
  have hll : x.Way.length = y.Way.length := by (try clear ha); (try clear h1); simp at *; omega
  refine LoopK.mk {k : Nat // k ≤ x.Way.length ∧ ∀ j : Nat, j < k → x.Way[j]? = y.Way[j]?} (fun ⟨k, _⟩ => [(2, .p 0 0), (3, .p 1 0), (5, .v (.int .i64 (k : Int)))]) (fun _ => [(1, [.int .i64 y.Epoch, .int .i64 y.Code.K, .int .i64 y.Code.M, .slice B0 y.Acting.length d0, .int .i64 y.State.Pg.Pool, .int .i64 y.State.Pg.No, .int .i64 y.State.Seen, .int .i64 y.State.Started, .int .i64 y.State.Tail.Epoch, .int .i64 y.State.Tail.Seq, .slice B1 y.State.Base.length d1, .slice B2 y.State.Clients.length d2, .slice B3 y.State.Log.length d3, .int .i64 y.State.Firm.Epoch, .int .i64 y.State.Firm.Seq, .slice B4 y.State.Chunks.length d4, .slice B5 y.Way.length d5, .slice B6 y.Acks.length d6, .slice B7 y.Waits.length d7]), (0, [.int .i64 x.Epoch, .int .i64 x.Code.K, .int .i64 x.Code.M, .slice A0 x.Acting.length c0, .int .i64 x.State.Pg.Pool, .int .i64 x.State.Pg.No, .int .i64 x.State.Seen, .int .i64 x.State.Started, .int .i64 x.State.Tail.Epoch, .int .i64 x.State.Tail.Seq, .slice A1 x.State.Base.length c1, .slice A2 x.State.Clients.length c2, .slice A3 x.State.Log.length c3, .int .i64 x.State.Firm.Epoch, .int .i64 x.State.Firm.Seq, .slice A4 x.State.Chunks.length c4, .slice A5 x.Way.length c5, .slice A6 x.Acks.length c6, .slice A7 x.Waits.length c7])]) (fun _ => M) (fun k => x.Way.length - k.1) ⟨0, Nat.zero_le _, fun j hj => absurd hj (by omega)⟩ ⟨⟨⟨rfl, rfl, rfl, trivial⟩, ⟨rfl, rfl, trivial⟩, rfl, rfl⟩, rfl⟩ ?_
  rintro ⟨k, hk, ha⟩
  (conv => whnf)
  refine CondK.mk (fun h1 => ?_) (fun h1 => ?_)
  · have hlt : k < x.Way.length := by simpa using h1
    have hlt' : k < y.Way.length := by omega
    have hx := List.getElem?_eq_getElem hlt
    have hy := List.getElem?_eq_getElem hlt'
    obtain ⟨ad, rfl, bnx, x0, x1, x2, x3, x4, x5, x6, x7, x8, x9, x10⟩ := at_Way s5 hx
    obtain ⟨ad', rfl, bny, y0, y1, y2, y3, y4, y5, y6, y7, y8, y9, y10⟩ := at_Way t5 hy
    repeat' ((conv => whnf); first | with_reducible refine CondK.tt ?_ | with_reducible refine CondK.ff ?_ | with_reducible refine CondK.not ?_ | refine LdK.mk _ (by assumption) ?_ | refine IdxK.mk _ rfl (by omega) (by omega) ?_ | refine DrawN.q (by kernel_rfl) ?_ | refine CondK.mk (fun h => ?_) (fun h => ?_))
    all_goals first
      | (have he : x.Way[k] = y.Way[k] := by first | exact of_decide_eq_true (by first | (rw [← eqv_Way]; exact not_f h) | (rw [← eqv_Way]; exact h) | exact not_f h | exact h) | (simpa using h)
         exact ⟨⟨k + 1, hlt, agree_step ha (by rw [hx, hy, he])⟩, ⟨⟨rfl, rfl, look_int (i64_succ (by omega)), trivial⟩, ⟨rfl, rfl, trivial⟩, rfl, rfl⟩, rfl, by simp; omega⟩)
      | (refine ret_bool ?_
         refine (decide_eq_false fun he => ?_).symm
         have he : x.Way[k] = y.Way[k] := by subst he; rfl
         first | exact of_decide_eq_false (show decide (x.Way[k] = y.Way[k]) = false by first | (rw [← eqv_Way]; exact not_t h) | (rw [← eqv_Way]; exact h) | exact not_t h | exact h) he | (simp [he] at h))
  have g0 : x.Way = y.Way := agree_all ha hll (by simpa using h1)
  (conv => whnf)
  have hl := s6.len
  have hll : x.Acks.length = y.Acks.length := by (try clear ha); (try clear h1); simp at *; omega
  refine LoopK.mk {k : Nat // k ≤ x.Acks.length ∧ ∀ j : Nat, j < k → x.Acks[j]? = y.Acks[j]?} (fun ⟨k, _⟩ => [(2, .p 0 0), (3, .p 1 0), (6, .v (.int .i64 (k : Int)))]) (fun _ => [(1, [.int .i64 y.Epoch, .int .i64 y.Code.K, .int .i64 y.Code.M, .slice B0 y.Acting.length d0, .int .i64 y.State.Pg.Pool, .int .i64 y.State.Pg.No, .int .i64 y.State.Seen, .int .i64 y.State.Started, .int .i64 y.State.Tail.Epoch, .int .i64 y.State.Tail.Seq, .slice B1 y.State.Base.length d1, .slice B2 y.State.Clients.length d2, .slice B3 y.State.Log.length d3, .int .i64 y.State.Firm.Epoch, .int .i64 y.State.Firm.Seq, .slice B4 y.State.Chunks.length d4, .slice B5 y.Way.length d5, .slice B6 y.Acks.length d6, .slice B7 y.Waits.length d7]), (0, [.int .i64 x.Epoch, .int .i64 x.Code.K, .int .i64 x.Code.M, .slice A0 x.Acting.length c0, .int .i64 x.State.Pg.Pool, .int .i64 x.State.Pg.No, .int .i64 x.State.Seen, .int .i64 x.State.Started, .int .i64 x.State.Tail.Epoch, .int .i64 x.State.Tail.Seq, .slice A1 x.State.Base.length c1, .slice A2 x.State.Clients.length c2, .slice A3 x.State.Log.length c3, .int .i64 x.State.Firm.Epoch, .int .i64 x.State.Firm.Seq, .slice A4 x.State.Chunks.length c4, .slice A5 x.Way.length c5, .slice A6 x.Acks.length c6, .slice A7 x.Waits.length c7])]) (fun _ => M) (fun k => x.Acks.length - k.1) ⟨0, Nat.zero_le _, fun j hj => absurd hj (by omega)⟩ ⟨⟨⟨rfl, rfl, rfl, trivial⟩, ⟨rfl, rfl, trivial⟩, rfl, rfl⟩, rfl⟩ ?_
  rintro ⟨k, hk, ha⟩
  (conv => whnf)
  refine CondK.mk (fun h1 => ?_) (fun h1 => ?_)
  · have hlt : k < x.Acks.length := by simpa using h1
    have hlt' : k < y.Acks.length := by omega
    have hx := List.getElem?_eq_getElem hlt
    have hy := List.getElem?_eq_getElem hlt'
    obtain ⟨ad, rfl, bnx, x0, x1, x2⟩ := at_Ack s6 hx
    obtain ⟨ad', rfl, bny, y0, y1, y2⟩ := at_Ack t6 hy
    repeat' ((conv => whnf); first | with_reducible refine CondK.tt ?_ | with_reducible refine CondK.ff ?_ | with_reducible refine CondK.not ?_ | refine LdK.mk _ (by assumption) ?_ | refine IdxK.mk _ rfl (by omega) (by omega) ?_ | refine DrawN.q (by kernel_rfl) ?_ | refine CondK.mk (fun h => ?_) (fun h => ?_))
    all_goals first
      | (have he : x.Acks[k] = y.Acks[k] := by first | exact of_decide_eq_true (by first | (rw [← eqv_Ack]; exact not_f h) | (rw [← eqv_Ack]; exact h) | exact not_f h | exact h) | (simpa using h)
         exact ⟨⟨k + 1, hlt, agree_step ha (by rw [hx, hy, he])⟩, ⟨⟨rfl, rfl, look_int (i64_succ (by omega)), trivial⟩, ⟨rfl, rfl, trivial⟩, rfl, rfl⟩, rfl, by simp; omega⟩)
      | (refine ret_bool ?_
         refine (decide_eq_false fun he => ?_).symm
         have he : x.Acks[k] = y.Acks[k] := by subst he; rfl
         first | exact of_decide_eq_false (show decide (x.Acks[k] = y.Acks[k]) = false by first | (rw [← eqv_Ack]; exact not_t h) | (rw [← eqv_Ack]; exact h) | exact not_t h | exact h) he | (simp [he] at h))
  have g1 : x.Acks = y.Acks := agree_all ha hll (by simpa using h1)
  (conv => whnf)
  have hl := s7.len
  have hll : x.Waits.length = y.Waits.length := by (try clear ha); (try clear h1); simp at *; omega
  refine LoopK.mk {k : Nat // k ≤ x.Waits.length ∧ ∀ j : Nat, j < k → x.Waits[j]? = y.Waits[j]?} (fun ⟨k, _⟩ => [(2, .p 0 0), (3, .p 1 0), (7, .v (.int .i64 (k : Int)))]) (fun _ => [(1, [.int .i64 y.Epoch, .int .i64 y.Code.K, .int .i64 y.Code.M, .slice B0 y.Acting.length d0, .int .i64 y.State.Pg.Pool, .int .i64 y.State.Pg.No, .int .i64 y.State.Seen, .int .i64 y.State.Started, .int .i64 y.State.Tail.Epoch, .int .i64 y.State.Tail.Seq, .slice B1 y.State.Base.length d1, .slice B2 y.State.Clients.length d2, .slice B3 y.State.Log.length d3, .int .i64 y.State.Firm.Epoch, .int .i64 y.State.Firm.Seq, .slice B4 y.State.Chunks.length d4, .slice B5 y.Way.length d5, .slice B6 y.Acks.length d6, .slice B7 y.Waits.length d7]), (0, [.int .i64 x.Epoch, .int .i64 x.Code.K, .int .i64 x.Code.M, .slice A0 x.Acting.length c0, .int .i64 x.State.Pg.Pool, .int .i64 x.State.Pg.No, .int .i64 x.State.Seen, .int .i64 x.State.Started, .int .i64 x.State.Tail.Epoch, .int .i64 x.State.Tail.Seq, .slice A1 x.State.Base.length c1, .slice A2 x.State.Clients.length c2, .slice A3 x.State.Log.length c3, .int .i64 x.State.Firm.Epoch, .int .i64 x.State.Firm.Seq, .slice A4 x.State.Chunks.length c4, .slice A5 x.Way.length c5, .slice A6 x.Acks.length c6, .slice A7 x.Waits.length c7])]) (fun _ => M) (fun k => x.Waits.length - k.1) ⟨0, Nat.zero_le _, fun j hj => absurd hj (by omega)⟩ ⟨⟨⟨rfl, rfl, rfl, trivial⟩, ⟨rfl, rfl, trivial⟩, rfl, rfl⟩, rfl⟩ ?_
  rintro ⟨k, hk, ha⟩
  (conv => whnf)
  refine CondK.mk (fun h1 => ?_) (fun h1 => ?_)
  · have hlt : k < x.Waits.length := by simpa using h1
    have hlt' : k < y.Waits.length := by omega
    have hx := List.getElem?_eq_getElem hlt
    have hy := List.getElem?_eq_getElem hlt'
    obtain ⟨ad, rfl, E0, e0, bnx, p0, x0, x1, x2, x3, x4, x5⟩ := at_Wait s7 hx
    obtain ⟨ad', rfl, F0, f0, bny, q0, y0, y1, y2, y3, y4, y5⟩ := at_Wait t7 hy
    repeat' ((conv => whnf); first | with_reducible refine CondK.tt ?_ | with_reducible refine CondK.ff ?_ | with_reducible refine CondK.not ?_ | refine LdK.mk _ (by assumption) ?_ | refine IdxK.mk _ rfl (by omega) (by omega) ?_ | refine DrawN.q (by kernel_rfl) ?_ | refine CallK.mk _ (l25SameWait_a M x.Waits[k] y.Waits[k] _ _ ⟨_, _, rfl, bnx, p0⟩ ⟨_, _, rfl, bny, q0⟩) ?_ | refine CallQ.mk _ (l25SameWait_a M x.Waits[k] y.Waits[k] _ _ ⟨_, _, rfl, bnx, p0⟩ ⟨_, _, rfl, bny, q0⟩) ?_ | refine CondK.mk (fun h => ?_) (fun h => ?_))
    all_goals first
      | (have he : x.Waits[k] = y.Waits[k] := by first | exact of_decide_eq_true (by first | (rw [← eqv_Ver]; exact not_f h) | (rw [← eqv_Ver]; exact h) | exact not_f h | exact h) | (simpa using h)
         exact ⟨⟨k + 1, hlt, agree_step ha (by rw [hx, hy, he])⟩, ⟨⟨rfl, rfl, look_int (i64_succ (by omega)), trivial⟩, ⟨rfl, rfl, trivial⟩, rfl, rfl⟩, rfl, by simp; omega⟩)
      | (refine ret_bool ?_
         refine (decide_eq_false fun he => ?_).symm
         have he : x.Waits[k] = y.Waits[k] := by subst he; rfl
         first | exact of_decide_eq_false (show decide (x.Waits[k] = y.Waits[k]) = false by first | (rw [← eqv_Ver]; exact not_t h) | (rw [← eqv_Ver]; exact h) | exact not_t h | exact h) he | (simp [he] at h))
  have g2 : x.Waits = y.Waits := agree_all ha hll (by simpa using h1)
  (conv => whnf)
  refine ret_bool ?_
  (try simp only [eqv_Pg, eqv_Code, eqv_Ver, eqv_Head, eqv_Last, eqv_Req, eqv_Entry, eqv_Chunk, eqv_Way, eqv_Ack, eqv_Got, eqv_Fill] at *)
  (try simp only [ba_eq] at *)
  obtain ⟨_, _, _, _, _, _, _⟩ := x
  obtain ⟨_, _, _, _, _, _, _⟩ := y
  simp_all
theorem sameInterval_a (M : Mem) (x y : GInterval) (cs ds : List Value) (h0 : RInterval M x cs) (h0' : RInterval M y ds) : Ans Tryz.prog M 32 #[.agg cs.toArray, .agg ds.toArray] (.bool (decide (x = y))) := by
  obtain ⟨A0, c0, rfl, hb, s0⟩ := h0
  obtain ⟨B0, d0, rfl, hb', t0⟩ := h0'
  refine ans_of T (l := [.agg #[.int .i64 x.First, .int .i64 x.Last, .slice A0 x.Acting.length c0, .bool x.May], .agg #[.int .i64 y.First, .int .i64 y.Last, .slice B0 y.Acting.length d0, .bool y.May]]) mixed Tryz.func32 rfl (by kernel_rfl) (Nat.le_of_ble_eq_true rfl) ?_
  repeat' ((conv => whnf); first | with_reducible refine CondK.tt ?_ | with_reducible refine CondK.ff ?_ | with_reducible refine CondK.not ?_ | refine CallK.mk _ (sEq_Int64 M _ _ _ _ _ _ s0 t0) ?_ | refine CallQ.mk _ (sEq_Int64 M _ _ _ _ _ _ s0 t0) ?_ | refine GuardK.mk (fun h => ?_) (fun h => ?_) | refine CondK.mk (fun h => ?_) (fun h => ?_))
  all_goals refine ret_bool ?_
  all_goals (first | (refine (decide_eq_false fun he => ?_).symm; subst he; simp at *; done) | (rw [Bool.eq_iff_iff]; (try simp only [eqv_Pg, eqv_Code, eqv_Ver, eqv_Head, eqv_Last, eqv_Req, eqv_Entry, eqv_Chunk, eqv_Way, eqv_Ack, eqv_Got, eqv_Fill] at *); (try simp only [ba_eq] at *); obtain ⟨_, _, _, _⟩ := x; obtain ⟨_, _, _, _⟩ := y; simp_all))
theorem sameNotice_a (M : Mem) (x y : GNotice) (cs ds : List Value) (h0 : RNotice M x cs) (h0' : RNotice M y ds) : Ans Tryz.prog M 34 #[.agg cs.toArray, .agg ds.toArray] (.bool (decide (x = y))) := by
  obtain ⟨A0, c0, A1, c1, A2, c2, A3, c3, rfl, hb, s0, s1, s2, s3⟩ := h0
  obtain ⟨B0, d0, B1, d1, B2, d2, B3, d3, rfl, hb', t0, t1, t2, t3⟩ := h0'
  refine ans_of T (l := [.agg #[.int .i64 x.From, .int .i64 x.State.Pg.Pool, .int .i64 x.State.Pg.No, .int .i64 x.State.Seen, .int .i64 x.State.Started, .int .i64 x.State.Tail.Epoch, .int .i64 x.State.Tail.Seq, .slice A0 x.State.Base.length c0, .slice A1 x.State.Clients.length c1, .slice A2 x.State.Log.length c2, .int .i64 x.State.Firm.Epoch, .int .i64 x.State.Firm.Seq, .slice A3 x.State.Chunks.length c3], .agg #[.int .i64 y.From, .int .i64 y.State.Pg.Pool, .int .i64 y.State.Pg.No, .int .i64 y.State.Seen, .int .i64 y.State.Started, .int .i64 y.State.Tail.Epoch, .int .i64 y.State.Tail.Seq, .slice B0 y.State.Base.length d0, .slice B1 y.State.Clients.length d1, .slice B2 y.State.Log.length d2, .int .i64 y.State.Firm.Epoch, .int .i64 y.State.Firm.Seq, .slice B3 y.State.Chunks.length d3]]) mixed Tryz.func34 rfl (by kernel_rfl) (Nat.le_of_ble_eq_true rfl) ?_
  repeat' ((conv => whnf); first | with_reducible refine CondK.tt ?_ | with_reducible refine CondK.ff ?_ | with_reducible refine CondK.not ?_ | refine CallK.mk _ (sameState_a M x.State y.State _ _ ⟨_, _, _, _, _, _, _, _, rfl, trivial, s0, s1, s2, s3⟩ ⟨_, _, _, _, _, _, _, _, rfl, trivial, t0, t1, t2, t3⟩) ?_ | refine CallQ.mk _ (sameState_a M x.State y.State _ _ ⟨_, _, _, _, _, _, _, _, rfl, trivial, s0, s1, s2, s3⟩ ⟨_, _, _, _, _, _, _, _, rfl, trivial, t0, t1, t2, t3⟩) ?_ | refine GuardK.mk (fun h => ?_) (fun h => ?_) | refine CondK.mk (fun h => ?_) (fun h => ?_))
  all_goals refine ret_bool ?_
  all_goals (first | (refine (decide_eq_false fun he => ?_).symm; subst he; simp at *; done) | (rw [Bool.eq_iff_iff]; (try simp only [eqv_Pg, eqv_Code, eqv_Ver, eqv_Head, eqv_Last, eqv_Req, eqv_Entry, eqv_Chunk, eqv_Way, eqv_Ack, eqv_Got, eqv_Fill] at *); (try simp only [ba_eq] at *); obtain ⟨_, _⟩ := x; obtain ⟨_, _⟩ := y; simp_all))
theorem eqFunc_Interval (M : Mem) (l l' : List GInterval) (A A' : Option Addr) (c c' : Nat) (h : SlR M RInterval 4 48 A c l) (h' : SlR M RInterval 4 48 A' c' l') : Ans Tryz.prog M 31 #[.slice A l.length c, .slice A' l'.length c', .func (.func 32) #[] #[]] (.bool (decide (l = l'))) := by
  have hl := h.len
  refine ans_of T (l := [.slice A l.length c, .slice A' l'.length c', .func (.func 32) #[] #[]]) mixed Tryz.func31 rfl (by kernel_rfl) (Nat.le_of_ble_eq_true rfl) ?_
  (conv => whnf)
  refine CondK.mk (fun h1 => ?_) (fun h1 => ?_)
  · refine ret_bool ((decide_eq_false fun he => ?_).symm)
    subst he
    simp at h1
  have hll : l.length = l'.length := by simp at h1; omega
  (conv => whnf)
  refine LoopK.mk {k : Nat // k ≤ l.length ∧ ∀ j : Nat, j < k → l[j]? = l'[j]?} (fun ⟨k, _⟩ => [(0, .v (.slice A l.length c)), (1, .v (.slice A' l'.length c')), (2, .v (.func (.func 32) #[] #[])), (15, .v (.slice A l.length c)), (16, .v (.int .i64 (l.length : Int))), (17, .v (.int .i64 (k : Int)))]) (fun _ => []) (fun _ => M) (fun k => l.length - k.1) ⟨0, Nat.zero_le _, fun j hj => absurd hj (by omega)⟩ ⟨⟨⟨rfl, rfl, rfl, rfl, rfl, rfl, trivial⟩, trivial, rfl, rfl⟩, rfl⟩ ?_
  rintro ⟨k, hk, ha⟩
  (conv => whnf)
  refine CondK.mk (fun h1 => ?_) (fun h1 => ?_)
  · have hlt : k < l.length := by simpa using h1
    have hlt' : k < l'.length := by omega
    have hx := List.getElem?_eq_getElem hlt
    have hy := List.getElem?_eq_getElem hlt'
    obtain ⟨ad, rfl, A0, c0, bnx, s0, x0, x1, x2, x3⟩ := at_Interval h hx
    obtain ⟨ad', rfl, B0, d0, bny, t0, y0, y1, y2, y3⟩ := at_Interval h' hy
    repeat' ((conv => whnf); first | with_reducible refine CondK.tt ?_ | with_reducible refine CondK.ff ?_ | with_reducible refine CondK.not ?_ | refine LdK.mk _ (by assumption) ?_ | refine IdxK.mk _ rfl (by omega) (by omega) ?_ | refine DrawN.q (by kernel_rfl) ?_ | refine CallK.mk _ (sameInterval_a M l[k] l'[k] _ _ ⟨_, _, rfl, bnx, s0⟩ ⟨_, _, rfl, bny, t0⟩) ?_ | refine CallQ.mk _ (sameInterval_a M l[k] l'[k] _ _ ⟨_, _, rfl, bnx, s0⟩ ⟨_, _, rfl, bny, t0⟩) ?_ | refine CondK.mk (fun h => ?_) (fun h => ?_))
    all_goals first
      | (have he : l[k] = l'[k] := by first | exact of_decide_eq_true (by first | (rw [← eqv_Ver]; exact not_f h) | (rw [← eqv_Ver]; exact h) | exact not_f h | exact h) | (simpa using h)
         exact ⟨⟨k + 1, hlt, agree_step ha (by rw [hx, hy, he])⟩, ⟨⟨rfl, rfl, rfl, rfl, rfl, look_int (i64_succ (by omega)), trivial⟩, trivial, rfl, rfl⟩, rfl, by simp; omega⟩)
      | (refine ret_bool ?_
         refine (decide_eq_false fun he => ?_).symm
         have he : l[k] = l'[k] := by subst he; rfl
         first | exact of_decide_eq_false (show decide (l[k] = l'[k]) = false by first | (rw [← eqv_Ver]; exact not_t h) | (rw [← eqv_Ver]; exact h) | exact not_t h | exact h) he | (simp [he] at h))
  · exact ret_bool (decide_eq_true (agree_all ha hll (by simpa using h1))).symm
theorem eqFunc_Notice (M : Mem) (l l' : List GNotice) (A A' : Option Addr) (c c' : Nat) (h : SlR M RNotice 13 168 A c l) (h' : SlR M RNotice 13 168 A' c' l') : Ans Tryz.prog M 33 #[.slice A l.length c, .slice A' l'.length c', .func (.func 34) #[] #[]] (.bool (decide (l = l'))) := by
  have hl := h.len
  refine ans_of T (l := [.slice A l.length c, .slice A' l'.length c', .func (.func 34) #[] #[]]) mixed Tryz.func33 rfl (by kernel_rfl) (Nat.le_of_ble_eq_true rfl) ?_
  (conv => whnf)
  refine CondK.mk (fun h1 => ?_) (fun h1 => ?_)
  · refine ret_bool ((decide_eq_false fun he => ?_).symm)
    subst he
    simp at h1
  have hll : l.length = l'.length := by simp at h1; omega
  (conv => whnf)
  refine LoopK.mk {k : Nat // k ≤ l.length ∧ ∀ j : Nat, j < k → l[j]? = l'[j]?} (fun ⟨k, _⟩ => [(0, .v (.slice A l.length c)), (1, .v (.slice A' l'.length c')), (2, .v (.func (.func 34) #[] #[])), (15, .v (.slice A l.length c)), (16, .v (.int .i64 (l.length : Int))), (17, .v (.int .i64 (k : Int)))]) (fun _ => []) (fun _ => M) (fun k => l.length - k.1) ⟨0, Nat.zero_le _, fun j hj => absurd hj (by omega)⟩ ⟨⟨⟨rfl, rfl, rfl, rfl, rfl, rfl, trivial⟩, trivial, rfl, rfl⟩, rfl⟩ ?_
  rintro ⟨k, hk, ha⟩
  (conv => whnf)
  refine CondK.mk (fun h1 => ?_) (fun h1 => ?_)
  · have hlt : k < l.length := by simpa using h1
    have hlt' : k < l'.length := by omega
    have hx := List.getElem?_eq_getElem hlt
    have hy := List.getElem?_eq_getElem hlt'
    obtain ⟨ad, rfl, A0, c0, A1, c1, A2, c2, A3, c3, bnx, ⟨s0, s1, s2, s3⟩, x0, x1, x2, x3, x4, x5, x6, x7, x8, x9, x10, x11, x12⟩ := at_Notice h hx
    obtain ⟨ad', rfl, B0, d0, B1, d1, B2, d2, B3, d3, bny, ⟨t0, t1, t2, t3⟩, y0, y1, y2, y3, y4, y5, y6, y7, y8, y9, y10, y11, y12⟩ := at_Notice h' hy
    repeat' ((conv => whnf); first | with_reducible refine CondK.tt ?_ | with_reducible refine CondK.ff ?_ | with_reducible refine CondK.not ?_ | refine LdK.mk _ (by assumption) ?_ | refine IdxK.mk _ rfl (by omega) (by omega) ?_ | refine DrawN.q (by kernel_rfl) ?_ | refine CallK.mk _ (sameNotice_a M l[k] l'[k] _ _ ⟨_, _, _, _, _, _, _, _, rfl, bnx, s0, s1, s2, s3⟩ ⟨_, _, _, _, _, _, _, _, rfl, bny, t0, t1, t2, t3⟩) ?_ | refine CallQ.mk _ (sameNotice_a M l[k] l'[k] _ _ ⟨_, _, _, _, _, _, _, _, rfl, bnx, s0, s1, s2, s3⟩ ⟨_, _, _, _, _, _, _, _, rfl, bny, t0, t1, t2, t3⟩) ?_ | refine CondK.mk (fun h => ?_) (fun h => ?_))
    all_goals first
      | (have he : l[k] = l'[k] := by first | exact of_decide_eq_true (by first | (rw [← eqv_Ver]; exact not_f h) | (rw [← eqv_Ver]; exact h) | exact not_f h | exact h) | (simpa using h)
         exact ⟨⟨k + 1, hlt, agree_step ha (by rw [hx, hy, he])⟩, ⟨⟨rfl, rfl, rfl, rfl, rfl, look_int (i64_succ (by omega)), trivial⟩, trivial, rfl, rfl⟩, rfl, by simp; omega⟩)
      | (refine ret_bool ?_
         refine (decide_eq_false fun he => ?_).symm
         have he : l[k] = l'[k] := by subst he; rfl
         first | exact of_decide_eq_false (show decide (l[k] = l'[k]) = false by first | (rw [← eqv_Ver]; exact not_t h) | (rw [← eqv_Ver]; exact h) | exact not_t h | exact h) he | (simp [he] at h))
  · exact ret_bool (decide_eq_true (agree_all ha hll (by simpa using h1))).symm
theorem ext_Interval (a b : GInterval) : a.First = b.First → a.Last = b.Last → a.Acting = b.Acting → a.May = b.May → a = b := by
  cases a; cases b
  intros
  simp_all
theorem l27SameIvs_a (M : Mem) (l l' : List GInterval) (A A' : Option Addr) (c c' : Nat) (h : SlR M RInterval 4 48 A c l) (h' : SlR M RInterval 4 48 A' c' l') : Ans Tryz.prog M 17 #[.slice A l.length c, .slice A' l'.length c'] (.bool (decide (l = l'))) := by
  have hl := h.len
  refine ans_of T (l := [.slice A l.length c, .slice A' l'.length c']) mixed Tryz.func17 rfl (by kernel_rfl) (Nat.le_of_ble_eq_true rfl) ?_
  (conv => whnf)
  refine CondK.mk (fun h1 => ?_) (fun h1 => ?_)
  · refine ret_bool ((decide_eq_false fun he => ?_).symm)
    subst he
    simp at h1
  have hll : l.length = l'.length := by simp at h1; omega
  (conv => whnf)
  refine LoopK.mk {k : Nat // k ≤ l.length ∧ ∀ j : Nat, j < k → l[j]? = l'[j]?} (fun ⟨k, _⟩ => [(0, .v (.slice A l.length c)), (1, .v (.slice A' l'.length c')), (5, .v (.int .i64 (k : Int)))]) (fun _ => []) (fun _ => M) (fun k => l.length - k.1) ⟨0, Nat.zero_le _, fun j hj => absurd hj (by omega)⟩ ⟨⟨⟨rfl, rfl, rfl, trivial⟩, trivial, rfl, rfl⟩, rfl⟩ ?_
  rintro ⟨k, hk, ha⟩
  (conv => whnf)
  refine CondK.mk (fun h1 => ?_) (fun h1 => ?_)
  · have hlt : k < l.length := by simpa using h1
    have hlt' : k < l'.length := by omega
    have hx := List.getElem?_eq_getElem hlt
    have hy := List.getElem?_eq_getElem hlt'
    obtain ⟨ad, rfl, A0, c0, bnx, s0, x0, x1, x2, x3⟩ := at_Interval h hx
    obtain ⟨ad', rfl, B0, d0, bny, t0, y0, y1, y2, y3⟩ := at_Interval h' hy
    repeat' ((conv => whnf); first | with_reducible refine CondK.tt ?_ | with_reducible refine CondK.ff ?_ | with_reducible refine CondK.not ?_ | refine LdK.mk _ (by assumption) ?_ | refine IdxK.mk _ rfl (by omega) (by omega) ?_ | refine DrawN.q (by kernel_rfl) ?_ | refine CallK.mk _ (l00Same_a M _ _ _ _ _ _ s0 t0) ?_ | refine CallQ.mk _ (l00Same_a M _ _ _ _ _ _ s0 t0) ?_ | refine CondK.mk (fun h => ?_) (fun h => ?_))
    all_goals first
      | (have he : l[k] = l'[k] := by clear ha hx hy; apply ext_Interval <;> simp_all
         exact ⟨⟨k + 1, hlt, agree_step ha (by rw [hx, hy, he])⟩, ⟨⟨rfl, rfl, look_int (i64_succ (by omega)), trivial⟩, trivial, rfl, rfl⟩, rfl, by simp; omega⟩)
      | (refine ret_bool ?_
         refine (decide_eq_false fun he => ?_).symm
         have he : l[k] = l'[k] := by subst he; rfl
         clear ha hx hy
         simp_all)
      | fail
  · exact ret_bool (decide_eq_true (agree_all ha hll (by simpa using h1))).symm
theorem ext_Notice (a b : GNotice) : a.From = b.From → a.State = b.State → a = b := by
  cases a; cases b
  intros
  simp_all
theorem l27SameNotices_a (M : Mem) (l l' : List GNotice) (A A' : Option Addr) (c c' : Nat) (h : SlR M RNotice 13 168 A c l) (h' : SlR M RNotice 13 168 A' c' l') : Ans Tryz.prog M 18 #[.slice A l.length c, .slice A' l'.length c'] (.bool (decide (l = l'))) := by
  have hl := h.len
  refine ans_of T (l := [.slice A l.length c, .slice A' l'.length c']) mixed Tryz.func18 rfl (by kernel_rfl) (Nat.le_of_ble_eq_true rfl) ?_
  (conv => whnf)
  refine CondK.mk (fun h1 => ?_) (fun h1 => ?_)
  · refine ret_bool ((decide_eq_false fun he => ?_).symm)
    subst he
    simp at h1
  have hll : l.length = l'.length := by simp at h1; omega
  (conv => whnf)
  refine LoopK.mk {k : Nat // k ≤ l.length ∧ ∀ j : Nat, j < k → l[j]? = l'[j]?} (fun ⟨k, _⟩ => [(0, .v (.slice A l.length c)), (1, .v (.slice A' l'.length c')), (5, .v (.int .i64 (k : Int)))]) (fun _ => []) (fun _ => M) (fun k => l.length - k.1) ⟨0, Nat.zero_le _, fun j hj => absurd hj (by omega)⟩ ⟨⟨⟨rfl, rfl, rfl, trivial⟩, trivial, rfl, rfl⟩, rfl⟩ ?_
  rintro ⟨k, hk, ha⟩
  (conv => whnf)
  refine CondK.mk (fun h1 => ?_) (fun h1 => ?_)
  · have hlt : k < l.length := by simpa using h1
    have hlt' : k < l'.length := by omega
    have hx := List.getElem?_eq_getElem hlt
    have hy := List.getElem?_eq_getElem hlt'
    obtain ⟨ad, rfl, A0, c0, A1, c1, A2, c2, A3, c3, bnx, ⟨s0, s1, s2, s3⟩, x0, x1, x2, x3, x4, x5, x6, x7, x8, x9, x10, x11, x12⟩ := at_Notice h hx
    obtain ⟨ad', rfl, B0, d0, B1, d1, B2, d2, B3, d3, bny, ⟨t0, t1, t2, t3⟩, y0, y1, y2, y3, y4, y5, y6, y7, y8, y9, y10, y11, y12⟩ := at_Notice h' hy
    repeat' ((conv => whnf); first | with_reducible refine CondK.tt ?_ | with_reducible refine CondK.ff ?_ | with_reducible refine CondK.not ?_ | refine LdK.mk _ (by assumption) ?_ | refine IdxK.mk _ rfl (by omega) (by omega) ?_ | refine DrawN.q (by kernel_rfl) ?_ | refine CallK.mk _ (l25SameState_a M l[k].State l'[k].State _ _ ⟨_, _, _, _, _, _, _, _, rfl, trivial, s0, s1, s2, s3⟩ ⟨_, _, _, _, _, _, _, _, rfl, trivial, t0, t1, t2, t3⟩) ?_ | refine CallQ.mk _ (l25SameState_a M l[k].State l'[k].State _ _ ⟨_, _, _, _, _, _, _, _, rfl, trivial, s0, s1, s2, s3⟩ ⟨_, _, _, _, _, _, _, _, rfl, trivial, t0, t1, t2, t3⟩) ?_ | refine CondK.mk (fun h => ?_) (fun h => ?_))
    all_goals first
      | (have he : l[k] = l'[k] := by clear ha hx hy; apply ext_Notice <;> simp_all
         exact ⟨⟨k + 1, hlt, agree_step ha (by rw [hx, hy, he])⟩, ⟨⟨rfl, rfl, look_int (i64_succ (by omega)), trivial⟩, trivial, rfl, rfl⟩, rfl, by simp; omega⟩)
      | (refine ret_bool ?_
         refine (decide_eq_false fun he => ?_).symm
         have he : l[k] = l'[k] := by subst he; rfl
         clear ha hx hy
         simp_all)
      | fail
  · exact ret_bool (decide_eq_true (agree_all ha hll (by simpa using h1))).symm
theorem SameLead_a (M : Mem) (x y : GLead) (cs ds : List Value) (h0 : RLead M x cs) (h0' : RLead M y ds) : Ans Tryz.prog M 7 #[.agg cs.toArray, .agg ds.toArray] (.bool (decide (x = y))) := by
  obtain ⟨A0, c0, A1, c1, A2, c2, A3, c3, A4, c4, A5, c5, A6, c6, A7, c7, A8, c8, A9, c9, A10, c10, A11, c11, A12, c12, A13, c13, A14, c14, A15, c15, A16, c16, A17, c17, rfl, hb, s0, s1, s2, s3, s4, s5, s6, s7, s8, s9, s10, s11, s12, s13, s14, s15, s16, s17⟩ := h0
  obtain ⟨B0, d0, B1, d1, B2, d2, B3, d3, B4, d4, B5, d5, B6, d6, B7, d7, B8, d8, B9, d9, B10, d10, B11, d11, B12, d12, B13, d13, B14, d14, B15, d15, B16, d16, B17, d17, rfl, hb', t0, t1, t2, t3, t4, t5, t6, t7, t8, t9, t10, t11, t12, t13, t14, t15, t16, t17⟩ := h0'
  refine ans_of T (l := [.agg #[.int .i64 x.Pg.Pool, .int .i64 x.Pg.No, .int .i64 x.Epoch, .int .i64 x.Phase, .int .i64 x.Code.K, .int .i64 x.Code.M, .slice A0 x.Acting.length c0, .slice A1 x.Ivs.length c1, .slice A2 x.Heard.length c2, .int .i64 x.Pick.Pg.Pool, .int .i64 x.Pick.Pg.No, .int .i64 x.Pick.Seen, .int .i64 x.Pick.Started, .int .i64 x.Pick.Tail.Epoch, .int .i64 x.Pick.Tail.Seq, .slice A3 x.Pick.Base.length c3, .slice A4 x.Pick.Clients.length c4, .slice A5 x.Pick.Log.length c5, .int .i64 x.Pick.Firm.Epoch, .int .i64 x.Pick.Firm.Seq, .slice A6 x.Pick.Chunks.length c6, .slice A7 x.Fills.length c7, .slice A8 x.Have.length c8, .slice A9 x.Ready.length c9, .int .i64 x.Line.Epoch, .int .i64 x.Line.Code.K, .int .i64 x.Line.Code.M, .slice A10 x.Line.Acting.length c10, .int .i64 x.Line.State.Pg.Pool, .int .i64 x.Line.State.Pg.No, .int .i64 x.Line.State.Seen, .int .i64 x.Line.State.Started, .int .i64 x.Line.State.Tail.Epoch, .int .i64 x.Line.State.Tail.Seq, .slice A11 x.Line.State.Base.length c11, .slice A12 x.Line.State.Clients.length c12, .slice A13 x.Line.State.Log.length c13, .int .i64 x.Line.State.Firm.Epoch, .int .i64 x.Line.State.Firm.Seq, .slice A14 x.Line.State.Chunks.length c14, .slice A15 x.Line.Way.length c15, .slice A16 x.Line.Acks.length c16, .slice A17 x.Line.Waits.length c17], .agg #[.int .i64 y.Pg.Pool, .int .i64 y.Pg.No, .int .i64 y.Epoch, .int .i64 y.Phase, .int .i64 y.Code.K, .int .i64 y.Code.M, .slice B0 y.Acting.length d0, .slice B1 y.Ivs.length d1, .slice B2 y.Heard.length d2, .int .i64 y.Pick.Pg.Pool, .int .i64 y.Pick.Pg.No, .int .i64 y.Pick.Seen, .int .i64 y.Pick.Started, .int .i64 y.Pick.Tail.Epoch, .int .i64 y.Pick.Tail.Seq, .slice B3 y.Pick.Base.length d3, .slice B4 y.Pick.Clients.length d4, .slice B5 y.Pick.Log.length d5, .int .i64 y.Pick.Firm.Epoch, .int .i64 y.Pick.Firm.Seq, .slice B6 y.Pick.Chunks.length d6, .slice B7 y.Fills.length d7, .slice B8 y.Have.length d8, .slice B9 y.Ready.length d9, .int .i64 y.Line.Epoch, .int .i64 y.Line.Code.K, .int .i64 y.Line.Code.M, .slice B10 y.Line.Acting.length d10, .int .i64 y.Line.State.Pg.Pool, .int .i64 y.Line.State.Pg.No, .int .i64 y.Line.State.Seen, .int .i64 y.Line.State.Started, .int .i64 y.Line.State.Tail.Epoch, .int .i64 y.Line.State.Tail.Seq, .slice B11 y.Line.State.Base.length d11, .slice B12 y.Line.State.Clients.length d12, .slice B13 y.Line.State.Log.length d13, .int .i64 y.Line.State.Firm.Epoch, .int .i64 y.Line.State.Firm.Seq, .slice B14 y.Line.State.Chunks.length d14, .slice B15 y.Line.Way.length d15, .slice B16 y.Line.Acks.length d16, .slice B17 y.Line.Waits.length d17]]) mixed Tryz.func7 rfl (by kernel_rfl) (Nat.le_of_ble_eq_true rfl) ?_
  repeat' ((conv => whnf); first | with_reducible refine CondK.tt ?_ | with_reducible refine CondK.ff ?_ | with_reducible refine CondK.not ?_ | refine CallK.mk _ (sEq_Int64 M _ _ _ _ _ _ s0 t0) ?_ | refine CallQ.mk _ (sEq_Int64 M _ _ _ _ _ _ s0 t0) ?_ | refine CallK.mk _ (eqFunc_Interval M _ _ _ _ _ _ s1 t1) ?_ | refine CallQ.mk _ (eqFunc_Interval M _ _ _ _ _ _ s1 t1) ?_ | refine CallK.mk _ (eqFunc_Notice M _ _ _ _ _ _ s2 t2) ?_ | refine CallQ.mk _ (eqFunc_Notice M _ _ _ _ _ _ s2 t2) ?_ | refine CallK.mk _ (sameState_a M x.Pick y.Pick _ _ ⟨_, _, _, _, _, _, _, _, rfl, trivial, s3, s4, s5, s6⟩ ⟨_, _, _, _, _, _, _, _, rfl, trivial, t3, t4, t5, t6⟩) ?_ | refine CallQ.mk _ (sameState_a M x.Pick y.Pick _ _ ⟨_, _, _, _, _, _, _, _, rfl, trivial, s3, s4, s5, s6⟩ ⟨_, _, _, _, _, _, _, _, rfl, trivial, t3, t4, t5, t6⟩) ?_ | refine CallK.mk _ (sEq_Fill M _ _ _ _ _ _ s7 t7) ?_ | refine CallQ.mk _ (sEq_Fill M _ _ _ _ _ _ s7 t7) ?_ | refine CallK.mk _ (sEq_Chunk M _ _ _ _ _ _ s8 t8) ?_ | refine CallQ.mk _ (sEq_Chunk M _ _ _ _ _ _ s8 t8) ?_ | refine CallK.mk _ (sEq_Int64 M _ _ _ _ _ _ s9 t9) ?_ | refine CallQ.mk _ (sEq_Int64 M _ _ _ _ _ _ s9 t9) ?_ | refine CallK.mk _ (SameLine_a M x.Line y.Line _ _ ⟨_, _, _, _, _, _, _, _, _, _, _, _, _, _, _, _, rfl, trivial, s10, s11, s12, s13, s14, s15, s16, s17⟩ ⟨_, _, _, _, _, _, _, _, _, _, _, _, _, _, _, _, rfl, trivial, t10, t11, t12, t13, t14, t15, t16, t17⟩) ?_ | refine CallQ.mk _ (SameLine_a M x.Line y.Line _ _ ⟨_, _, _, _, _, _, _, _, _, _, _, _, _, _, _, _, rfl, trivial, s10, s11, s12, s13, s14, s15, s16, s17⟩ ⟨_, _, _, _, _, _, _, _, _, _, _, _, _, _, _, _, rfl, trivial, t10, t11, t12, t13, t14, t15, t16, t17⟩) ?_ | refine GuardK.mk (fun h => ?_) (fun h => ?_) | refine CondK.mk (fun h => ?_) (fun h => ?_))
  all_goals refine ret_bool ?_
  all_goals (first | (refine (decide_eq_false fun he => ?_).symm; subst he; simp at *; done) | (rw [Bool.eq_iff_iff]; (try simp only [eqv_Pg, eqv_Code, eqv_Ver, eqv_Head, eqv_Last, eqv_Req, eqv_Entry, eqv_Chunk, eqv_Way, eqv_Ack, eqv_Got, eqv_Fill] at *); (try simp only [ba_eq] at *); obtain ⟨_, _, _, _, _, _, _, _, _, _, _, _⟩ := x; obtain ⟨_, _, _, _, _, _, _, _, _, _, _, _⟩ := y; simp_all))
theorem specSameLead_a (M : Mem) (x y : GLead) (cs ds : List Value) (h0 : RLead M x cs) (h0' : RLead M y ds) : Ans Tryz.prog M 5 #[.agg cs.toArray, .agg ds.toArray] (.bool (decide (x = y))) := by
  obtain ⟨A0, c0, A1, c1, A2, c2, A3, c3, A4, c4, A5, c5, A6, c6, A7, c7, A8, c8, A9, c9, A10, c10, A11, c11, A12, c12, A13, c13, A14, c14, A15, c15, A16, c16, A17, c17, rfl, hb, s0, s1, s2, s3, s4, s5, s6, s7, s8, s9, s10, s11, s12, s13, s14, s15, s16, s17⟩ := h0
  obtain ⟨B0, d0, B1, d1, B2, d2, B3, d3, B4, d4, B5, d5, B6, d6, B7, d7, B8, d8, B9, d9, B10, d10, B11, d11, B12, d12, B13, d13, B14, d14, B15, d15, B16, d16, B17, d17, rfl, hb', t0, t1, t2, t3, t4, t5, t6, t7, t8, t9, t10, t11, t12, t13, t14, t15, t16, t17⟩ := h0'
  refine ans_of T (l := [.agg #[.int .i64 x.Pg.Pool, .int .i64 x.Pg.No, .int .i64 x.Epoch, .int .i64 x.Phase, .int .i64 x.Code.K, .int .i64 x.Code.M, .slice A0 x.Acting.length c0, .slice A1 x.Ivs.length c1, .slice A2 x.Heard.length c2, .int .i64 x.Pick.Pg.Pool, .int .i64 x.Pick.Pg.No, .int .i64 x.Pick.Seen, .int .i64 x.Pick.Started, .int .i64 x.Pick.Tail.Epoch, .int .i64 x.Pick.Tail.Seq, .slice A3 x.Pick.Base.length c3, .slice A4 x.Pick.Clients.length c4, .slice A5 x.Pick.Log.length c5, .int .i64 x.Pick.Firm.Epoch, .int .i64 x.Pick.Firm.Seq, .slice A6 x.Pick.Chunks.length c6, .slice A7 x.Fills.length c7, .slice A8 x.Have.length c8, .slice A9 x.Ready.length c9, .int .i64 x.Line.Epoch, .int .i64 x.Line.Code.K, .int .i64 x.Line.Code.M, .slice A10 x.Line.Acting.length c10, .int .i64 x.Line.State.Pg.Pool, .int .i64 x.Line.State.Pg.No, .int .i64 x.Line.State.Seen, .int .i64 x.Line.State.Started, .int .i64 x.Line.State.Tail.Epoch, .int .i64 x.Line.State.Tail.Seq, .slice A11 x.Line.State.Base.length c11, .slice A12 x.Line.State.Clients.length c12, .slice A13 x.Line.State.Log.length c13, .int .i64 x.Line.State.Firm.Epoch, .int .i64 x.Line.State.Firm.Seq, .slice A14 x.Line.State.Chunks.length c14, .slice A15 x.Line.Way.length c15, .slice A16 x.Line.Acks.length c16, .slice A17 x.Line.Waits.length c17], .agg #[.int .i64 y.Pg.Pool, .int .i64 y.Pg.No, .int .i64 y.Epoch, .int .i64 y.Phase, .int .i64 y.Code.K, .int .i64 y.Code.M, .slice B0 y.Acting.length d0, .slice B1 y.Ivs.length d1, .slice B2 y.Heard.length d2, .int .i64 y.Pick.Pg.Pool, .int .i64 y.Pick.Pg.No, .int .i64 y.Pick.Seen, .int .i64 y.Pick.Started, .int .i64 y.Pick.Tail.Epoch, .int .i64 y.Pick.Tail.Seq, .slice B3 y.Pick.Base.length d3, .slice B4 y.Pick.Clients.length d4, .slice B5 y.Pick.Log.length d5, .int .i64 y.Pick.Firm.Epoch, .int .i64 y.Pick.Firm.Seq, .slice B6 y.Pick.Chunks.length d6, .slice B7 y.Fills.length d7, .slice B8 y.Have.length d8, .slice B9 y.Ready.length d9, .int .i64 y.Line.Epoch, .int .i64 y.Line.Code.K, .int .i64 y.Line.Code.M, .slice B10 y.Line.Acting.length d10, .int .i64 y.Line.State.Pg.Pool, .int .i64 y.Line.State.Pg.No, .int .i64 y.Line.State.Seen, .int .i64 y.Line.State.Started, .int .i64 y.Line.State.Tail.Epoch, .int .i64 y.Line.State.Tail.Seq, .slice B11 y.Line.State.Base.length d11, .slice B12 y.Line.State.Clients.length d12, .slice B13 y.Line.State.Log.length d13, .int .i64 y.Line.State.Firm.Epoch, .int .i64 y.Line.State.Firm.Seq, .slice B14 y.Line.State.Chunks.length d14, .slice B15 y.Line.Way.length d15, .slice B16 y.Line.Acks.length d16, .slice B17 y.Line.Waits.length d17]]) mixed Tryz.func5 rfl (by kernel_rfl) (Nat.le_of_ble_eq_true rfl) ?_
  repeat' ((conv => whnf); first | with_reducible refine CondK.tt ?_ | with_reducible refine CondK.ff ?_ | with_reducible refine CondK.not ?_ | refine CallK.mk _ (l00Same_a M _ _ _ _ _ _ s0 t0) ?_ | refine CallQ.mk _ (l00Same_a M _ _ _ _ _ _ s0 t0) ?_ | refine CallK.mk _ (l27SameIvs_a M _ _ _ _ _ _ s1 t1) ?_ | refine CallQ.mk _ (l27SameIvs_a M _ _ _ _ _ _ s1 t1) ?_ | refine CallK.mk _ (l27SameNotices_a M _ _ _ _ _ _ s2 t2) ?_ | refine CallQ.mk _ (l27SameNotices_a M _ _ _ _ _ _ s2 t2) ?_ | refine CallK.mk _ (l25SameState_a M x.Pick y.Pick _ _ ⟨_, _, _, _, _, _, _, _, rfl, trivial, s3, s4, s5, s6⟩ ⟨_, _, _, _, _, _, _, _, rfl, trivial, t3, t4, t5, t6⟩) ?_ | refine CallQ.mk _ (l25SameState_a M x.Pick y.Pick _ _ ⟨_, _, _, _, _, _, _, _, rfl, trivial, s3, s4, s5, s6⟩ ⟨_, _, _, _, _, _, _, _, rfl, trivial, t3, t4, t5, t6⟩) ?_ | refine CallK.mk _ (l00Same_a M _ _ _ _ _ _ s9 t9) ?_ | refine CallQ.mk _ (l00Same_a M _ _ _ _ _ _ s9 t9) ?_ | refine CallK.mk _ (specSameLine_a M x.Line y.Line _ _ ⟨_, _, _, _, _, _, _, _, _, _, _, _, _, _, _, _, rfl, trivial, s10, s11, s12, s13, s14, s15, s16, s17⟩ ⟨_, _, _, _, _, _, _, _, _, _, _, _, _, _, _, _, rfl, trivial, t10, t11, t12, t13, t14, t15, t16, t17⟩) ?_ | refine CallQ.mk _ (specSameLine_a M x.Line y.Line _ _ ⟨_, _, _, _, _, _, _, _, _, _, _, _, _, _, _, _, rfl, trivial, s10, s11, s12, s13, s14, s15, s16, s17⟩ ⟨_, _, _, _, _, _, _, _, _, _, _, _, _, _, _, _, rfl, trivial, t10, t11, t12, t13, t14, t15, t16, t17⟩) ?_ | refine GuardK.mk (fun h => ?_) (fun h => ?_) | refine CondK.mk (fun h => ?_) (fun h => ?_))
  all_goals try (refine ret_bool ?_; focus (first | (refine (decide_eq_false fun he => ?_).symm; subst he; simp at *; done) | (rw [Bool.eq_iff_iff]; (try simp only [eqv_Pg, eqv_Code, eqv_Ver, eqv_Head, eqv_Last, eqv_Req, eqv_Entry, eqv_Chunk, eqv_Way, eqv_Ack, eqv_Got, eqv_Fill] at *); (try simp only [ba_eq] at *); obtain ⟨_, _, _, _, _, _, _, _, _, _, _, _⟩ := x; obtain ⟨_, _, _, _, _, _, _, _, _, _, _, _⟩ := y; simp_all)); done)
  have hl := s7.len
  have hll : x.Fills.length = y.Fills.length := by (try clear ha); (try clear h1); simp at *; omega
  refine LoopK.mk {k : Nat // k ≤ x.Fills.length ∧ ∀ j : Nat, j < k → x.Fills[j]? = y.Fills[j]?} (fun ⟨k, _⟩ => [(2, .p 0 0), (3, .p 1 0), (5, .v (.int .i64 (k : Int)))]) (fun _ => [(1, [.int .i64 y.Pg.Pool, .int .i64 y.Pg.No, .int .i64 y.Epoch, .int .i64 y.Phase, .int .i64 y.Code.K, .int .i64 y.Code.M, .slice B0 y.Acting.length d0, .slice B1 y.Ivs.length d1, .slice B2 y.Heard.length d2, .int .i64 y.Pick.Pg.Pool, .int .i64 y.Pick.Pg.No, .int .i64 y.Pick.Seen, .int .i64 y.Pick.Started, .int .i64 y.Pick.Tail.Epoch, .int .i64 y.Pick.Tail.Seq, .slice B3 y.Pick.Base.length d3, .slice B4 y.Pick.Clients.length d4, .slice B5 y.Pick.Log.length d5, .int .i64 y.Pick.Firm.Epoch, .int .i64 y.Pick.Firm.Seq, .slice B6 y.Pick.Chunks.length d6, .slice B7 y.Fills.length d7, .slice B8 y.Have.length d8, .slice B9 y.Ready.length d9, .int .i64 y.Line.Epoch, .int .i64 y.Line.Code.K, .int .i64 y.Line.Code.M, .slice B10 y.Line.Acting.length d10, .int .i64 y.Line.State.Pg.Pool, .int .i64 y.Line.State.Pg.No, .int .i64 y.Line.State.Seen, .int .i64 y.Line.State.Started, .int .i64 y.Line.State.Tail.Epoch, .int .i64 y.Line.State.Tail.Seq, .slice B11 y.Line.State.Base.length d11, .slice B12 y.Line.State.Clients.length d12, .slice B13 y.Line.State.Log.length d13, .int .i64 y.Line.State.Firm.Epoch, .int .i64 y.Line.State.Firm.Seq, .slice B14 y.Line.State.Chunks.length d14, .slice B15 y.Line.Way.length d15, .slice B16 y.Line.Acks.length d16, .slice B17 y.Line.Waits.length d17]), (0, [.int .i64 x.Pg.Pool, .int .i64 x.Pg.No, .int .i64 x.Epoch, .int .i64 x.Phase, .int .i64 x.Code.K, .int .i64 x.Code.M, .slice A0 x.Acting.length c0, .slice A1 x.Ivs.length c1, .slice A2 x.Heard.length c2, .int .i64 x.Pick.Pg.Pool, .int .i64 x.Pick.Pg.No, .int .i64 x.Pick.Seen, .int .i64 x.Pick.Started, .int .i64 x.Pick.Tail.Epoch, .int .i64 x.Pick.Tail.Seq, .slice A3 x.Pick.Base.length c3, .slice A4 x.Pick.Clients.length c4, .slice A5 x.Pick.Log.length c5, .int .i64 x.Pick.Firm.Epoch, .int .i64 x.Pick.Firm.Seq, .slice A6 x.Pick.Chunks.length c6, .slice A7 x.Fills.length c7, .slice A8 x.Have.length c8, .slice A9 x.Ready.length c9, .int .i64 x.Line.Epoch, .int .i64 x.Line.Code.K, .int .i64 x.Line.Code.M, .slice A10 x.Line.Acting.length c10, .int .i64 x.Line.State.Pg.Pool, .int .i64 x.Line.State.Pg.No, .int .i64 x.Line.State.Seen, .int .i64 x.Line.State.Started, .int .i64 x.Line.State.Tail.Epoch, .int .i64 x.Line.State.Tail.Seq, .slice A11 x.Line.State.Base.length c11, .slice A12 x.Line.State.Clients.length c12, .slice A13 x.Line.State.Log.length c13, .int .i64 x.Line.State.Firm.Epoch, .int .i64 x.Line.State.Firm.Seq, .slice A14 x.Line.State.Chunks.length c14, .slice A15 x.Line.Way.length c15, .slice A16 x.Line.Acks.length c16, .slice A17 x.Line.Waits.length c17])]) (fun _ => M) (fun k => x.Fills.length - k.1) ⟨0, Nat.zero_le _, fun j hj => absurd hj (by omega)⟩ ⟨⟨⟨rfl, rfl, rfl, trivial⟩, ⟨rfl, rfl, trivial⟩, rfl, rfl⟩, rfl⟩ ?_
  rintro ⟨k, hk, ha⟩
  (conv => whnf)
  refine CondK.mk (fun h1 => ?_) (fun h1 => ?_)
  · have hlt : k < x.Fills.length := by simpa using h1
    have hlt' : k < y.Fills.length := by omega
    have hx := List.getElem?_eq_getElem hlt
    have hy := List.getElem?_eq_getElem hlt'
    obtain ⟨ad, rfl, bnx, x0, x1, x2, x3, x4, x5, x6⟩ := at_Fill s7 hx
    obtain ⟨ad', rfl, bny, y0, y1, y2, y3, y4, y5, y6⟩ := at_Fill t7 hy
    repeat' ((conv => whnf); first | with_reducible refine CondK.tt ?_ | with_reducible refine CondK.ff ?_ | with_reducible refine CondK.not ?_ | refine LdK.mk _ (by assumption) ?_ | refine IdxK.mk _ rfl (by omega) (by omega) ?_ | refine DrawN.q (by kernel_rfl) ?_ | refine CondK.mk (fun h => ?_) (fun h => ?_))
    all_goals first
      | (have he : x.Fills[k] = y.Fills[k] := by first | exact of_decide_eq_true (by first | (rw [← eqv_Fill]; exact not_f h) | (rw [← eqv_Fill]; exact h) | exact not_f h | exact h) | (simpa using h)
         exact ⟨⟨k + 1, hlt, agree_step ha (by rw [hx, hy, he])⟩, ⟨⟨rfl, rfl, look_int (i64_succ (by omega)), trivial⟩, ⟨rfl, rfl, trivial⟩, rfl, rfl⟩, rfl, by simp; omega⟩)
      | (refine ret_bool ?_
         refine (decide_eq_false fun he => ?_).symm
         have he : x.Fills[k] = y.Fills[k] := by subst he; rfl
         first | exact of_decide_eq_false (show decide (x.Fills[k] = y.Fills[k]) = false by first | (rw [← eqv_Fill]; exact not_t h) | (rw [← eqv_Fill]; exact h) | exact not_t h | exact h) he | (simp [he] at h))
  have g0 : x.Fills = y.Fills := agree_all ha hll (by simpa using h1)
  (conv => whnf)
  have hl := s8.len
  have hll : x.Have.length = y.Have.length := by (try clear ha); (try clear h1); simp at *; omega
  refine LoopK.mk {k : Nat // k ≤ x.Have.length ∧ ∀ j : Nat, j < k → x.Have[j]? = y.Have[j]?} (fun ⟨k, _⟩ => [(2, .p 0 0), (3, .p 1 0), (6, .v (.int .i64 (k : Int)))]) (fun _ => [(1, [.int .i64 y.Pg.Pool, .int .i64 y.Pg.No, .int .i64 y.Epoch, .int .i64 y.Phase, .int .i64 y.Code.K, .int .i64 y.Code.M, .slice B0 y.Acting.length d0, .slice B1 y.Ivs.length d1, .slice B2 y.Heard.length d2, .int .i64 y.Pick.Pg.Pool, .int .i64 y.Pick.Pg.No, .int .i64 y.Pick.Seen, .int .i64 y.Pick.Started, .int .i64 y.Pick.Tail.Epoch, .int .i64 y.Pick.Tail.Seq, .slice B3 y.Pick.Base.length d3, .slice B4 y.Pick.Clients.length d4, .slice B5 y.Pick.Log.length d5, .int .i64 y.Pick.Firm.Epoch, .int .i64 y.Pick.Firm.Seq, .slice B6 y.Pick.Chunks.length d6, .slice B7 y.Fills.length d7, .slice B8 y.Have.length d8, .slice B9 y.Ready.length d9, .int .i64 y.Line.Epoch, .int .i64 y.Line.Code.K, .int .i64 y.Line.Code.M, .slice B10 y.Line.Acting.length d10, .int .i64 y.Line.State.Pg.Pool, .int .i64 y.Line.State.Pg.No, .int .i64 y.Line.State.Seen, .int .i64 y.Line.State.Started, .int .i64 y.Line.State.Tail.Epoch, .int .i64 y.Line.State.Tail.Seq, .slice B11 y.Line.State.Base.length d11, .slice B12 y.Line.State.Clients.length d12, .slice B13 y.Line.State.Log.length d13, .int .i64 y.Line.State.Firm.Epoch, .int .i64 y.Line.State.Firm.Seq, .slice B14 y.Line.State.Chunks.length d14, .slice B15 y.Line.Way.length d15, .slice B16 y.Line.Acks.length d16, .slice B17 y.Line.Waits.length d17]), (0, [.int .i64 x.Pg.Pool, .int .i64 x.Pg.No, .int .i64 x.Epoch, .int .i64 x.Phase, .int .i64 x.Code.K, .int .i64 x.Code.M, .slice A0 x.Acting.length c0, .slice A1 x.Ivs.length c1, .slice A2 x.Heard.length c2, .int .i64 x.Pick.Pg.Pool, .int .i64 x.Pick.Pg.No, .int .i64 x.Pick.Seen, .int .i64 x.Pick.Started, .int .i64 x.Pick.Tail.Epoch, .int .i64 x.Pick.Tail.Seq, .slice A3 x.Pick.Base.length c3, .slice A4 x.Pick.Clients.length c4, .slice A5 x.Pick.Log.length c5, .int .i64 x.Pick.Firm.Epoch, .int .i64 x.Pick.Firm.Seq, .slice A6 x.Pick.Chunks.length c6, .slice A7 x.Fills.length c7, .slice A8 x.Have.length c8, .slice A9 x.Ready.length c9, .int .i64 x.Line.Epoch, .int .i64 x.Line.Code.K, .int .i64 x.Line.Code.M, .slice A10 x.Line.Acting.length c10, .int .i64 x.Line.State.Pg.Pool, .int .i64 x.Line.State.Pg.No, .int .i64 x.Line.State.Seen, .int .i64 x.Line.State.Started, .int .i64 x.Line.State.Tail.Epoch, .int .i64 x.Line.State.Tail.Seq, .slice A11 x.Line.State.Base.length c11, .slice A12 x.Line.State.Clients.length c12, .slice A13 x.Line.State.Log.length c13, .int .i64 x.Line.State.Firm.Epoch, .int .i64 x.Line.State.Firm.Seq, .slice A14 x.Line.State.Chunks.length c14, .slice A15 x.Line.Way.length c15, .slice A16 x.Line.Acks.length c16, .slice A17 x.Line.Waits.length c17])]) (fun _ => M) (fun k => x.Have.length - k.1) ⟨0, Nat.zero_le _, fun j hj => absurd hj (by omega)⟩ ⟨⟨⟨rfl, rfl, rfl, trivial⟩, ⟨rfl, rfl, trivial⟩, rfl, rfl⟩, rfl⟩ ?_
  rintro ⟨k, hk, ha⟩
  (conv => whnf)
  refine CondK.mk (fun h1 => ?_) (fun h1 => ?_)
  · have hlt : k < x.Have.length := by simpa using h1
    have hlt' : k < y.Have.length := by omega
    have hx := List.getElem?_eq_getElem hlt
    have hy := List.getElem?_eq_getElem hlt'
    obtain ⟨ad, rfl, bnx, x0, x1, x2, x3, x4, x5⟩ := at_Chunk s8 hx
    obtain ⟨ad', rfl, bny, y0, y1, y2, y3, y4, y5⟩ := at_Chunk t8 hy
    repeat' ((conv => whnf); first | with_reducible refine CondK.tt ?_ | with_reducible refine CondK.ff ?_ | with_reducible refine CondK.not ?_ | refine LdK.mk _ (by assumption) ?_ | refine IdxK.mk _ rfl (by omega) (by omega) ?_ | refine DrawN.q (by kernel_rfl) ?_ | refine CondK.mk (fun h => ?_) (fun h => ?_))
    all_goals first
      | (have he : x.Have[k] = y.Have[k] := by first | exact of_decide_eq_true (by first | (rw [← eqv_Chunk]; exact not_f h) | (rw [← eqv_Chunk]; exact h) | exact not_f h | exact h) | (simpa using h)
         exact ⟨⟨k + 1, hlt, agree_step ha (by rw [hx, hy, he])⟩, ⟨⟨rfl, rfl, look_int (i64_succ (by omega)), trivial⟩, ⟨rfl, rfl, trivial⟩, rfl, rfl⟩, rfl, by simp; omega⟩)
      | (refine ret_bool ?_
         refine (decide_eq_false fun he => ?_).symm
         have he : x.Have[k] = y.Have[k] := by subst he; rfl
         first | exact of_decide_eq_false (show decide (x.Have[k] = y.Have[k]) = false by first | (rw [← eqv_Chunk]; exact not_t h) | (rw [← eqv_Chunk]; exact h) | exact not_t h | exact h) he | (simp [he] at h))
  have g1 : x.Have = y.Have := agree_all ha hll (by simpa using h1)
  (conv => whnf)
  refine ret_bool ?_
  (try simp only [eqv_Pg, eqv_Code, eqv_Ver, eqv_Head, eqv_Last, eqv_Req, eqv_Entry, eqv_Chunk, eqv_Way, eqv_Ack, eqv_Got, eqv_Fill] at *)
  (try simp only [ba_eq] at *)
  obtain ⟨_, _, _, _, _, _, _, _, _, _, _, _⟩ := x
  obtain ⟨_, _, _, _, _, _, _, _, _, _, _, _⟩ := y
  simp_all
end Go.Proofs.YtmdbeooianiojaaGreat.Hlp
