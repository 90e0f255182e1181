/- The order of vers, names, entries and chunks by the light walk. -/
import Derived.Test.YthpnmempecelaaaGreatFunA
namespace Go.Proofs.YthpnmempecelaaaGreat.Hlp
open Go Go.RowKit Go.Proofs Go.Proofs.YthpnmempecelaaaGreat.Lw
set_option linter.unusedVariables false
set_option linter.unusedSimpArgs false
set_option maxRecDepth 100000
set_option maxHeartbeats 4000000
theorem slInts {M : Mem} {ad : Addr} (l : List Int) (h : ∀ o u, (l.map (Value.int .i64))[o]? = some u → M (ad.add o) = some u) (hb : l.length ≤ 9223372036854775807) : SlR M RInt 1 8 (some ad) l.length l := by
  refine ⟨Nat.le_refl _, hb, fun i x hx => ⟨ad, [.int .i64 x], rfl, rfl, rfl, fun j u hu => ?_⟩⟩
  cases j with
  | succ j => simp at hu
  | zero =>
    have := h i u (by rw [List.getElem?_map, hx]; exact hu)
    rw [Nat.mul_one]
    simpa [Addr.add] using this
def orF : List Int → Int
  | [] => 0
  | x :: r => if x = 0 then orF r else x
theorem orF_drop {l : List Int} {k : Nat} (h : k < l.length) : orF (l.drop k) = if l[k] = 0 then orF (l.drop (k + 1)) else l[k] := by
  rw [List.drop_eq_getElem_cons h]
  rfl
theorem or_a (M : Mem) (l : List Int) (A : Option Addr) (c : Nat) (h : SlR M RInt 1 8 A c l) : Ans Tryz.prog M 101 #[.slice A l.length c] (.int .i64 (orF l)) := by
  have hl := h.len
  refine ans_of T (l := [.slice A l.length c]) mixed Tryz.func101 rfl (by kernel_rfl) (Nat.le_of_ble_eq_true rfl) ?_
  (conv => whnf)
  refine LoopK.mk {k : Nat // k ≤ l.length ∧ orF l = orF (l.drop k)} (fun ⟨k, _⟩ => [(3, .v (.int .i64 0)), (6, .v (.slice A l.length c)), (7, .v (.int .i64 (l.length : Int))), (8, .v (.int .i64 (k : Int)))]) (fun _ => []) (fun _ => M) (fun k => l.length - k.1) ⟨0, Nat.zero_le _, rfl⟩ ⟨⟨⟨rfl, rfl, rfl, rfl, trivial⟩, trivial, rfl, rfl⟩, rfl⟩ ?_
  rintro ⟨k, hk, ha⟩
  (conv => whnf)
  refine CondK.mk (fun h1 => ?_) (fun h1 => ?_)
  · have hlt : k < l.length := by simpa using h1
    have hx := List.getElem?_eq_getElem hlt
    obtain ⟨ad, rfl, bnx, x0⟩ := at_Int h hx
    repeat' ((conv => whnf); first | with_reducible refine CondK.tt ?_ | with_reducible refine CondK.ff ?_ | with_reducible refine CondK.not ?_ | refine LdK.mk _ (by assumption) ?_ | refine IdxK.mk _ rfl (by omega) (by omega) ?_ | refine DrawN.q (by kernel_rfl) ?_ | refine CondK.mk (fun h => ?_) (fun h => ?_) | fail)
    all_goals first
      | (have h0 : l[k] = 0 := by simpa using h
         exact ⟨⟨k + 1, hlt, by rw [ha, orF_drop hlt, if_pos h0]⟩, ⟨⟨rfl, rfl, rfl, look_int (i64_succ (by omega)), trivial⟩, trivial, rfl, rfl⟩, rfl, by simp; omega⟩)
      | (have h0 : ¬ l[k] = 0 := by simpa using h
         refine ret_int ?_
         rw [ha, orF_drop hlt, if_neg h0])
  · have he : k = l.length := by have : ¬ k < l.length := by simpa using h1
                                 omega
    refine ret_int ?_
    rw [ha, he, List.drop_length]
    rfl
def cmpVer (a b : GVer) : Int := orF [cmpI a.Epoch b.Epoch, cmpI a.Seq b.Seq]
theorem cmpVer_less (a b : GVer) : decide (cmpVer a b < 0) = verLessF a b := by
  rw [Bool.eq_iff_iff]
  unfold cmpVer verLessF orF orF orF cmpI
  simp only [decide_eq_true_eq, Bool.or_eq_true, Bool.and_eq_true]
  split <;> split <;> (try split) <;> (try split) <;> (try split) <;> omega
theorem compareVers_a (M : Mem) (a b : GVer) : Ans Tryz.prog M 88 #[.agg #[.int .i64 a.Epoch, .int .i64 a.Seq], .agg #[.int .i64 b.Epoch, .int .i64 b.Seq]] (.int .i64 (cmpVer a b)) := by
  refine ans_of T (l := [.agg #[.int .i64 a.Epoch, .int .i64 a.Seq], .agg #[.int .i64 b.Epoch, .int .i64 b.Seq]]) mixed Tryz.func88 rfl (by kernel_rfl) (Nat.le_of_ble_eq_true rfl) ?_
  (conv => whnf)
  refine DrawN.t 10 (by kernel_rfl) ?_
  repeat' ((conv => whnf); first | refine CallQ.mk _ (cmpInt64_a _ _ _) ?_ | fail)
  refine PubK.mk fun ad M' hl hg => ?_
  (conv => whnf)
  refine CallK.mk _ (or_a M' [cmpI a.Epoch b.Epoch, cmpI a.Seq b.Seq] (some ad) 2 (slInts (M := M') (ad := ad) [cmpI a.Epoch b.Epoch, cmpI a.Seq b.Seq] hg (by simp))) ?_
  (conv => whnf)
  exact ret_int rfl
theorem verLess_a (M : Mem) (a b : GVer) : Ans Tryz.prog M 55 #[.agg #[.int .i64 a.Epoch, .int .i64 a.Seq], .agg #[.int .i64 b.Epoch, .int .i64 b.Seq]] (.bool (verLessF a b)) := by
  refine ans_of T (l := [.agg #[.int .i64 a.Epoch, .int .i64 a.Seq], .agg #[.int .i64 b.Epoch, .int .i64 b.Seq]]) mixed Tryz.func55 rfl (by kernel_rfl) (Nat.le_of_ble_eq_true rfl) ?_
  repeat' ((conv => whnf); first | refine CallK.mk _ (compareVers_a _ _ _) ?_ | refine DrawN.q (by kernel_rfl) ?_ | refine CallQ.mk _ (compareVers_a _ _ _) ?_ | fail)
  exact ret_bool (cmpVer_less a b)
end Go.Proofs.YthpnmempecelaaaGreat.Hlp
