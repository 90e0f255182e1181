/- Strings compared by the light walk; chunks in their order. -/
import Derived.Test.YthpnmempecelaaaGreatFunE
import Derived.Lib.Strings
import Derived.Lib.Walk
import Derived.Lib.Bytealg
namespace Go.Proofs.YthpnmempecelaaaGreat.Hlp
open Go Go.RowKit Go.Proofs Go.Proofs.YthpnmempecelaaaGreat.Lw
set_option linter.unusedVariables false
set_option linter.unusedSimpArgs false
set_option maxRecDepth 100000
set_option maxHeartbeats 4000000
def cmpS (a b : ByteArray) : Int := Lib.compareBytes a.data.toList b.data.toList
theorem cmpString_c (a b : ByteArray) (w : World) : Calls Tryz.prog 106 #[.string a, .string b] w fun e w' => e = .returned (.int .i64 (cmpS a b)) ∧ w' = w := by
  go_enter Tryz.func106, Tryz.ntmps106
  go_wp2
  rw [run_callFunc_extern Tryz.func108 (by kernel_rfl) (by kernel_rfl) (by kernel_rfl) (e := Extern.BytealgCompare.compare) (by kernel_rfl), Lib.run_compareString]
  simp only [Result.andThen]
  rw [Oper.upon_value]
  go_wp2
  go_ret
  exact ⟨rfl, rfl⟩
theorem cmpString_a (M : Mem) (a b : ByteArray) : Ans Tryz.prog M 106 #[.string a, .string b] (.int .i64 (cmpS a b)) :=
  ⟨by kernel_rfl, fun w hw => (cmpString_c a b w).mono fun e w' ⟨he, hw'⟩ => ⟨he, by subst hw'; exact Below.refl _ _⟩⟩
theorem stringsCompare_a (M : Mem) (a b : ByteArray) : Ans Tryz.prog M 103 #[.string a, .string b] (.int .i64 (cmpS a b)) := by
  refine ans_of T (l := [.string a, .string b]) mixed Tryz.func103 rfl (by kernel_rfl) (Nat.le_of_ble_eq_true rfl) ?_
  repeat' ((conv => whnf); first | refine CallK.mk _ (cmpString_a _ _ _) ?_ | fail)
  exact ret_int rfl
def cmpChunk (a b : GChunk) : Int := orF [cmpS a.Name b.Name, cmpVer a.Ver b.Ver, cmpI a.Pos b.Pos]
theorem compareChunks_a (M : Mem) (a b : GChunk) : Ans Tryz.prog M 91 #[.agg #[.string a.Name, .int .i64 a.Ver.Epoch, .int .i64 a.Ver.Seq, .int .i64 a.Pos, .int .i64 a.Sum, .string a.Bytes], .agg #[.string b.Name, .int .i64 b.Ver.Epoch, .int .i64 b.Ver.Seq, .int .i64 b.Pos, .int .i64 b.Sum, .string b.Bytes]] (.int .i64 (cmpChunk a b)) := by
  refine ans_of T (l := [.agg #[.string a.Name, .int .i64 a.Ver.Epoch, .int .i64 a.Ver.Seq, .int .i64 a.Pos, .int .i64 a.Sum, .string a.Bytes], .agg #[.string b.Name, .int .i64 b.Ver.Epoch, .int .i64 b.Ver.Seq, .int .i64 b.Pos, .int .i64 b.Sum, .string b.Bytes]]) mixed Tryz.func91 rfl (by kernel_rfl) (Nat.le_of_ble_eq_true rfl) ?_
  (conv => whnf)
  refine DrawN.t 15 (by kernel_rfl) ?_
  repeat' ((conv => whnf); first | refine CallQ.mk _ (stringsCompare_a _ a.Name b.Name) ?_ | refine CallQ.mk _ (compareVers_a _ a.Ver b.Ver) ?_ | refine CallQ.mk _ (cmpInt64_a _ a.Pos b.Pos) ?_ | fail)
  refine PubK.mk fun ad M' hl hg => ?_
  (conv => whnf)
  refine CallK.mk _ (or_a M' [cmpS a.Name b.Name, cmpVer a.Ver b.Ver, cmpI a.Pos b.Pos] (some ad) 3 (slInts (M := M') (ad := ad) [cmpS a.Name b.Name, cmpVer a.Ver b.Ver, cmpI a.Pos b.Pos] hg (by simp))) ?_
  (conv => whnf)
  exact ret_int rfl
theorem cmpB_less : ∀ (a b : List UInt8), (Lib.compareBytes a b < 0 ↔ Op.bytesLess a b = true) ∧ (Lib.compareBytes a b = 0 ↔ a = b)
  | [], [] => by simp [Lib.compareBytes, Op.bytesLess]
  | [], _ :: _ => by simp [Lib.compareBytes, Op.bytesLess]
  | _ :: _, [] => by simp [Lib.compareBytes, Op.bytesLess]
  | x :: a, y :: b => by
    have ih := cmpB_less a b
    simp only [Lib.compareBytes, Op.bytesLess]
    by_cases h1 : x < y
    · have : x ≠ y := fun h => by subst h; exact absurd h1 (UInt8.lt_irrefl _)
      simp [h1, this]
    · by_cases h2 : y < x
      · have : x ≠ y := fun h => by subst h; exact absurd h2 (UInt8.lt_irrefl _)
        simp [h1, h2, this]
      · have : x = y := UInt8.le_antisymm (UInt8.not_lt.mp h2) (UInt8.not_lt.mp h1)
        subst this
        simpa [h1] using ih
theorem cmpS_less (a b : ByteArray) : decide (cmpS a b < 0) = Op.bytesLess a.toList b.toList := by
  rw [Bool.eq_iff_iff, decide_eq_true_eq, Lib.toList_data, Lib.toList_data]
  exact (cmpB_less _ _).1
theorem cmpS_eq (a b : ByteArray) : cmpS a b = 0 ↔ a = b := by
  unfold cmpS
  rw [(cmpB_less _ _).2]
  constructor
  · intro h
    cases a; cases b
    simpa [Array.toList_inj] using h
  · intro h; rw [h]
theorem cmpVer_eq (a b : GVer) : cmpVer a b = 0 ↔ a = b := by
  unfold cmpVer orF orF orF cmpI
  cases a; cases b
  simp only [GVer.mk.injEq]
  split <;> split <;> (try split) <;> (try split) <;> (try split) <;> omega
def chunkLessF (a b : GChunk) : Bool := if a.Name = b.Name then (if a.Ver = b.Ver then decide (a.Pos < b.Pos) else verLessF a.Ver b.Ver) else Op.bytesLess a.Name.toList b.Name.toList
theorem cmpChunk_less (a b : GChunk) : decide (cmpChunk a b < 0) = chunkLessF a b := by
  unfold chunkLessF cmpChunk
  by_cases h1 : a.Name = b.Name
  · rw [if_pos h1]
    by_cases h2 : a.Ver = b.Ver
    · rw [if_pos h2]
      simp only [orF, (cmpS_eq _ _).mpr h1, (cmpVer_eq _ _).mpr h2, if_true]
      rw [Bool.eq_iff_iff]
      unfold cmpI
      simp only [decide_eq_true_eq]
      split <;> (try split) <;> (try split) <;> omega
    · rw [if_neg h2]
      simp only [orF, (cmpS_eq _ _).mpr h1, if_true, if_neg (fun h => h2 ((cmpVer_eq _ _).mp h))]
      exact cmpVer_less _ _
  · rw [if_neg h1]
    simp only [orF, if_neg (fun h => h1 ((cmpS_eq _ _).mp h))]
    exact cmpS_less _ _
def chunkF (l : List GChunk) (k : Nat) : Bool :=
  match l[k]? with
  | some x => chunkOkF x && !(decide (0 < k) && match l[k - 1]? with | some y => !chunkLessF y x | none => false)
  | none => true
theorem chunkF_at {l : List GChunk} {k : Nat} {x y : GChunk} (hx : l[k]? = some x) (hy : l[k - 1]? = some y) : chunkF l k = (chunkOkF x && !(decide (0 < k) && !chunkLessF y x)) := by
  unfold chunkF
  rw [hx, hy]
def chunksOkF (s : GPgState) : Bool := allR s.Chunks.length (chunkF s.Chunks) && decide ((s.Chunks.length : Int) ≤ 160)
theorem chunksOk_a (M : Mem) (s : GPgState) (cs : List Value) (h : RPgState M s cs) : Ans Tryz.prog M 57 #[.agg cs.toArray] (.bool (chunksOkF s)) := by
  obtain ⟨A0, c0, A1, c1, A2, c2, A3, c3, rfl, hb, s0, s1, s2, s3⟩ := h
  have l3 := s3.len
  refine ans_of T (l := [.agg (List.toArray _)]) mixed Tryz.func57 rfl (by kernel_rfl) (Nat.le_of_ble_eq_true rfl) ?_
  (conv => whnf)
  refine LoopK.mk {k : Nat // k ≤ s.Chunks.length ∧ ∀ j, j < k → chunkF s.Chunks j = true} (fun ⟨k, _⟩ => [(1, .p 0 0), (6, .v (.slice A3 s.Chunks.length c3)), (7, .v (.int .i64 (s.Chunks.length : Int))), (8, .v (.int .i64 (k : Int)))]) (fun _ => [(0, _)]) (fun _ => M) (fun k => s.Chunks.length - k.1) ⟨0, Nat.zero_le _, fun j hj => absurd hj (by omega)⟩ ⟨⟨⟨rfl, rfl, rfl, rfl, trivial⟩, ⟨rfl, trivial⟩, rfl, rfl⟩, rfl⟩ ?_
  rintro ⟨k, hk, ha⟩
  (conv => whnf)
  refine CondK.mk (fun h1 => ?_) (fun h1 => ?_)
  · have hlt : k < s.Chunks.length := by simpa using h1
    have hx := List.getElem?_eq_getElem hlt
    obtain ⟨ad, rfl, bnx, x0, x1, x2, x3, x4, x5⟩ := at_Chunk s3 hx
    obtain ⟨p, hp⟩ : ∃ p, p = k - 1 := ⟨_, rfl⟩
    have hpl : p < s.Chunks.length := by omega
    have hy := List.getElem?_eq_getElem hpl
    obtain ⟨_, hae, bny, y0, y1, y2, y3, y4, y5⟩ := at_Chunk s3 hy
    cases hae
    have hf := chunkF_at hx (by rw [← hp]; exact hy)
    repeat' ((conv => whnf); first | with_reducible refine CondK.tt ?_ | with_reducible refine CondK.ff ?_ | with_reducible refine CondK.not ?_ | refine LdK.mk _ (by assumption) ?_ | refine IdxK.mk _ rfl (by omega) (by omega) ?_ | refine IdxK.at p _ (i64_pred hp (by simpa using h) (by omega)) rfl hpl ?_ | refine DrawN.q (by kernel_rfl) ?_ | refine CallQ.mk _ (chunkOk_a _ s.Chunks[k] bnx.1 bnx.2) ?_ | refine CallQ.mk _ (compareChunks_a _ s.Chunks[p] s.Chunks[k]) ?_ | refine GuardK.mk (fun h => ?_) (fun h => ?_) | refine CondK.mk (fun h => ?_) (fun h => ?_) | fail)
    all_goals first
      | (have hf : chunkF s.Chunks k = true := by rw [hf, ← cmpChunk_less]; clear hf ha; (simp_all <;> (try intro h2 h3) <;> (try simp_all) <;> omega)
         exact ⟨⟨k + 1, hlt, allR_step ha hf⟩, ⟨⟨rfl, rfl, rfl, look_int (i64_succ (by omega)), trivial⟩, ⟨rfl, trivial⟩, rfl, rfl⟩, rfl, by simp; omega⟩)
      | (have hf : chunkF s.Chunks k = false := by rw [hf, ← cmpChunk_less]; clear hf ha; (simp_all <;> (try intro h2) <;> (try simp_all) <;> omega)
         refine ret_bool ?_
         rw [chunksOkF, allR_no hlt hf]; rfl)
  have e0 : allR s.Chunks.length (chunkF s.Chunks) = true := allR_yes fun j hj => ha j (Nat.lt_of_lt_of_le hj (by simpa using h1))
  repeat' ((conv => whnf); first | with_reducible refine CondK.tt ?_ | with_reducible refine CondK.ff ?_ | refine LdK.mk _ (by assumption) ?_ | refine DrawN.q (by kernel_rfl) ?_ | refine GuardK.mk (fun h => ?_) (fun h => ?_) | refine CondK.mk (fun h => ?_) (fun h => ?_) | fail)
  all_goals refine ret_bool ?_
  all_goals (rw [chunksOkF, e0]; (first | rfl | simp_all))
end Go.Proofs.YthpnmempecelaaaGreat.Hlp
