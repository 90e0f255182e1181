/- Entries and chunks by the light walk. -/
import Derived.Test.YtphnjgeejifcfaaFunC
namespace Go.Proofs.Ytphnjgeejifcfaa.Hlp
open Go Go.RowKit Go.Proofs Go.Proofs.Ytphnjgeejifcfaa.Lw
set_option linter.unusedVariables false
set_option linter.unusedSimpArgs false
set_option maxRecDepth 100000
set_option maxHeartbeats 4000000
def entryOkF (x : GEntry) : Bool := verOkF x.Ver && verOkF x.Prior && verLessF x.Prior x.Ver && nameOkF x.Name && reqOkF x.Req && sizeOkF x.Size x.Sum && !(x.Gone && (!decide (x.Size = 0) || !decide (x.Sum = 0)))
def chunkOkF (x : GChunk) : Bool := nameOkF x.Name && verOkF x.Ver && !decide (x.Ver = ⟨0, 0⟩) && inR x.Pos 0 6 && inR x.Sum 0 4294967295 && decide ((x.Bytes.size : Int) ≤ 64)
theorem entryOk_a (M : Mem) (x : GEntry) (hb : x.Name.size ≤ 9223372036854775807) : Ans Try.prog M 75 #[.agg #[.int .i64 x.Ver.Epoch, .int .i64 x.Ver.Seq, .int .i64 x.Prior.Epoch, .int .i64 x.Prior.Seq, .string x.Name, .bool x.Gone, .int .i64 x.Size, .int .i64 x.Sum, .int .i64 x.Req.Client, .int .i64 x.Req.No]] (.bool (entryOkF x)) := by
  refine ans_of T (l := [.agg #[.int .i64 x.Ver.Epoch, .int .i64 x.Ver.Seq, .int .i64 x.Prior.Epoch, .int .i64 x.Prior.Seq, .string x.Name, .bool x.Gone, .int .i64 x.Size, .int .i64 x.Sum, .int .i64 x.Req.Client, .int .i64 x.Req.No]]) mixed Try.func75 rfl (by kernel_rfl) (Nat.le_of_ble_eq_true rfl) ?_
  repeat' ((conv => whnf); first | with_reducible refine CondK.tt ?_ | with_reducible refine CondK.ff ?_ | with_reducible refine CondK.not ?_ | refine LdK.mk _ (by assumption) ?_ | refine DrawN.q (by kernel_rfl) ?_ | refine CallK.mk _ (verOk_a _ x.Ver) ?_ | refine CallQ.mk _ (verOk_a _ x.Ver) ?_ | refine CallK.mk _ (verOk_a _ x.Prior) ?_ | refine CallQ.mk _ (verOk_a _ x.Prior) ?_ | refine CallK.mk _ (verLess_a _ x.Prior x.Ver) ?_ | refine CallQ.mk _ (verLess_a _ x.Prior x.Ver) ?_ | refine CallK.mk _ (nameOk_a _ _ hb) ?_ | refine CallQ.mk _ (nameOk_a _ _ hb) ?_ | refine CallK.mk _ (reqOk_a _ x.Req) ?_ | refine CallQ.mk _ (reqOk_a _ x.Req) ?_ | refine CallK.mk _ (sizeOk_a _ _ _) ?_ | refine CallQ.mk _ (sizeOk_a _ _ _) ?_ | refine GuardK.mk (fun h => ?_) (fun h => ?_) | refine CondK.mk (fun h => ?_) (fun h => ?_) | fail)
  all_goals refine ret_bool ?_
  all_goals ((unfold entryOkF; simp_all) <;> (rw [Bool.eq_iff_iff]; simp))
theorem chunkOk_a (M : Mem) (x : GChunk) (hb : x.Name.size ≤ 9223372036854775807) (hb' : x.Bytes.size ≤ 9223372036854775807) : Ans Try.prog M 60 #[.agg #[.string x.Name, .int .i64 x.Ver.Epoch, .int .i64 x.Ver.Seq, .int .i64 x.Pos, .int .i64 x.Sum, .string x.Bytes]] (.bool (chunkOkF x)) := by
  refine ans_of T (l := [.agg #[.string x.Name, .int .i64 x.Ver.Epoch, .int .i64 x.Ver.Seq, .int .i64 x.Pos, .int .i64 x.Sum, .string x.Bytes]]) mixed Try.func60 rfl (by kernel_rfl) (Nat.le_of_ble_eq_true rfl) ?_
  repeat' ((conv => whnf); first | with_reducible refine CondK.tt ?_ | with_reducible refine CondK.ff ?_ | with_reducible refine CondK.not ?_ | refine LdK.mk _ (by assumption) ?_ | refine DrawN.q (by kernel_rfl) ?_ | refine CallK.mk _ (verOk_a _ x.Ver) ?_ | refine CallQ.mk _ (verOk_a _ x.Ver) ?_ | refine CallK.mk _ (nameOk_a _ _ hb) ?_ | refine CallQ.mk _ (nameOk_a _ _ hb) ?_ | refine CallK.mk _ (between_a _ _ _ _) ?_ | refine CallQ.mk _ (between_a _ _ _ _) ?_ | refine GuardK.mk (fun h => ?_) (fun h => ?_) | refine CondK.mk (fun h => ?_) (fun h => ?_) | fail)
  all_goals refine ret_bool ?_
  all_goals (unfold chunkOkF; rw [← eqv_Ver]; simp_all)
end Go.Proofs.Ytphnjgeejifcfaa.Hlp
