/- The log of a pg's state by the light walk. -/
import Derived.Test.YthpnmempecelaaaGreatPlA
namespace Go.Proofs.YthpnmempecelaaaGreat.Hlp
open Go Go.RowKit Go.Proofs Go.Proofs.YthpnmempecelaaaGreat.Lw
set_option linter.unusedVariables false
set_option linter.unusedSimpArgs false
set_option maxRecDepth 100000
set_option maxHeartbeats 4000000
theorem look_map {i : Nat} {a b : MapD} (h : a = b) : some (PV.m i a) = some (PV.m i b) := by rw [h]
theorem logI_step {at_ : GVer} {m : MapD} {l : List GEntry} {k : Nat} (h : k < l.length) : logI at_ m (l.drop k) = ((entryOkF l[k] && decide (l[k].Prior = at_)) && (decide (((nextI m l[k]).length : Int) ≤ 16) && logI l[k].Ver (nextI m l[k]) (l.drop (k + 1)))) := by
  rw [List.drop_eq_getElem_cons h]
  rfl
theorem logOk_a (M : Mem) (s : GPgState) (cs : List Value) (h : RPgState M s cs) : Ans Tryz.prog M 54 #[.agg cs.toArray] (.bool (logOkF s)) := by
  obtain ⟨A0, c0, A1, c1, A2, c2, A3, c3, rfl, hb, s0, s1, s2, s3⟩ := h
  have l0 := s0.len
  have l2 := s2.len
  refine ans_of T (l := [.agg (List.toArray _)]) mixed Tryz.func54 rfl (by kernel_rfl) (Nat.le_of_ble_eq_true rfl) ?_
  (conv => whnf)
  refine LoopK.mk {k : Nat // k ≤ s.Base.length} (fun ⟨k, _⟩ => [(1, .p 0 0), (3, .p 1 0), (4, .m 2 (names0 (s.Base.take k))), (13, .v (.slice A0 s.Base.length c0)), (14, .v (.int .i64 (s.Base.length : Int))), (15, .v (.int .i64 (k : Int)))]) (fun _ => [(0, _), (1, [.int .i64 s.Tail.Epoch, .int .i64 s.Tail.Seq])]) (fun _ => M) (fun k => s.Base.length - k.1) ⟨0, Nat.zero_le _⟩ ⟨⟨⟨rfl, rfl, rfl, rfl, rfl, rfl, trivial⟩, ⟨rfl, rfl, trivial⟩, rfl, rfl⟩, rfl⟩ ?_
  rintro ⟨k, hk⟩
  (conv => whnf)
  refine CondK.mk (fun h1 => ?_) (fun h1 => ?_)
  · have hlt : k < s.Base.length := by simpa using h1
    have hx := List.getElem?_eq_getElem hlt
    obtain ⟨ad, rfl, bnx, x0, x1, x2, x3, x4⟩ := at_Head s0 hx
    repeat' ((conv => whnf); first | with_reducible refine CondK.tt ?_ | with_reducible refine CondK.ff ?_ | refine LdK.mk _ (by assumption) ?_ | refine IdxK.mk _ rfl (by omega) (by omega) ?_ | refine DrawN.q (by kernel_rfl) ?_ | fail)
    exact ⟨⟨k + 1, hlt⟩, ⟨⟨rfl, rfl, look_map (names0_step hlt).symm, rfl, rfl, look_int (i64_succ (by omega)), trivial⟩, ⟨rfl, rfl, trivial⟩, rfl, rfl⟩, rfl, by simp; omega⟩
  have he : s.Base.take k = s.Base := List.take_of_length_le (by have : ¬ k < s.Base.length := by simpa using h1
                                                                 omega)
  (conv => whnf)
  refine LoopK.mk {q : Nat × GVer × MapD // q.1 ≤ s.Log.length ∧ logI s.Tail (names0 s.Base) s.Log = logI q.2.1 q.2.2 (s.Log.drop q.1)} (fun ⟨⟨k, at_, m⟩, _⟩ => [(1, .p 0 0), (3, .p 1 0), (4, .m 2 m), (24, .v (.slice A2 s.Log.length c2)), (25, .v (.int .i64 (s.Log.length : Int))), (26, .v (.int .i64 (k : Int)))]) (fun ⟨⟨k, at_, m⟩, _⟩ => [(0, [.int .i64 s.Pg.Pool, .int .i64 s.Pg.No, .int .i64 s.Seen, .int .i64 s.Started, .int .i64 s.Tail.Epoch, .int .i64 s.Tail.Seq, .slice A0 s.Base.length c0, .slice A1 s.Clients.length c1, .slice A2 s.Log.length c2, .int .i64 s.Firm.Epoch, .int .i64 s.Firm.Seq, .slice A3 s.Chunks.length c3]), (1, [.int .i64 at_.Epoch, .int .i64 at_.Seq])]) (fun _ => M) (fun q => s.Log.length - q.1.1) ⟨(0, s.Tail, names0 (s.Base.take k)), Nat.zero_le _, by rw [he]; rfl⟩ ⟨⟨⟨rfl, rfl, rfl, rfl, rfl, rfl, trivial⟩, ⟨rfl, rfl, trivial⟩, rfl, rfl⟩, rfl⟩ ?_
  clear hk h1 he
  rintro ⟨⟨k, at_, m⟩, hk, ha⟩
  replace hk : k ≤ s.Log.length := hk
  replace ha : logI s.Tail (names0 s.Base) s.Log = logI at_ m (s.Log.drop k) := ha
  (conv => whnf)
  refine CondK.mk (fun h1 => ?_) (fun h1 => ?_)
  · have hlt : k < s.Log.length := by simpa using h1
    have hx := List.getElem?_eq_getElem hlt
    obtain ⟨ad, rfl, bnx, x0, x1, x2, x3, x4, x5, x6, x7, x8, x9⟩ := at_Entry s2 hx
    rw [logI_step hlt, ← eqv_Ver] at ha
    repeat' ((conv => whnf); first | with_reducible refine CondK.tt ?_ | with_reducible refine CondK.ff ?_ | with_reducible refine CondK.not ?_ | refine LdK.mk _ (by assumption) ?_ | refine IdxK.mk _ rfl (by omega) (by omega) ?_ | refine DrawN.q (by kernel_rfl) ?_ | refine CallK.mk _ (entryOk_a _ s.Log[k] bnx) ?_ | refine GuardK.mk (fun h => ?_) (fun h => ?_) | refine CondK.mk (fun h => ?_) (fun h => ?_) | fail)
    all_goals first
      | (refine ⟨⟨(k + 1, s.Log[k].Ver, nextI m s.Log[k]), hlt, ?_⟩, ⟨⟨rfl, rfl, look_map ?_, rfl, rfl, look_int (i64_succ (by omega)), trivial⟩, ⟨rfl, rfl, trivial⟩, rfl, rfl⟩, rfl, by simp; omega⟩
         · rw [ha]; clear ha; (simp_all [nextI] <;> omega)
         · clear ha; simp_all [nextI])
      | (refine ret_bool ?_
         unfold logOkF
         rw [ha]; clear ha; (simp_all [nextI] <;> omega))
  have he : s.Log.drop k = [] := List.drop_eq_nil_of_le (by have : ¬ k < s.Log.length := by simpa using h1
                                                            omega)
  rw [he] at ha
  repeat' ((conv => whnf); first | with_reducible refine CondK.tt ?_ | with_reducible refine CondK.ff ?_ | refine DrawN.q (by kernel_rfl) ?_ | fail)
  refine ret_bool ?_
  unfold logOkF
  rw [ha]
  simp [logI]
end Go.Proofs.YthpnmempecelaaaGreat.Hlp
