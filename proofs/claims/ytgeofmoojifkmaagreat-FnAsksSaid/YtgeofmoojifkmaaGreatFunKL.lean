/- The k-th greatest last version: impl.kthLast by the sort, spec.l22Kth by counting; one meaning. -/
import Derived.Test.YtgeofmoojifkmaaGreatFunSV
namespace Go.Proofs.YtgeofmoojifkmaaGreat.Hlp
open Go Go.RowKit Go.Proofs Go.Proofs.YtgeofmoojifkmaaGreat.Lw
set_option linter.unusedVariables false
set_option linter.unusedSimpArgs false
set_option maxRecDepth 100000
set_option maxHeartbeats 4000000
def vsF (l : List GNotice) : List GVer := l.map fun y => lastVerF y.State
theorem vsF_len (l : List GNotice) : (vsF l).length = l.length := by simp [vsF]
theorem vsF_at {l : List GNotice} {j : Nat} {y : GNotice} (h : l[j]? = some y) : (vsF l)[j]? = some (lastVerF y.State) := by simp [vsF, h]
def abvN (V : List GVer) (v : GVer) : Nat := V.countP (fun w => verLessF v w)
def uptN (V : List GVer) (v : GVer) : Nat := V.countP (fun w => !verLessF w v)
def kthIs (V : List GVer) (k : Int) (v : GVer) : Bool := decide ((abvN V v : Int) < k) && decide ((uptN V v : Int) ≥ k)
def kthF (V : List GVer) (k : Int) : GVer := (V.find? (kthIs V k)).getD ⟨0, 0⟩
theorem verLess_conn {x y : GVer} (h1 : verLessF x y = false) (h2 : verLessF y x = false) : x = y := by
  rw [verLess_niff] at h1 h2
  obtain ⟨a, b⟩ := x
  obtain ⟨c, d⟩ := y
  simp only at h1 h2
  have e1 : a = c := by omega
  have e2 : b = d := by omega
  rw [e1, e2]
theorem countP_le_of {α : Type} {p q : α → Bool} {l : List α} (h : ∀ x ∈ l, p x = true → q x = true) : l.countP p ≤ l.countP q := List.countP_mono_left h
theorem kth_uniq {V : List GVer} {k : Int} {v v' : GVer} (h : kthIs V k v = true) (h' : kthIs V k v' = true) : v = v' := by
  simp only [kthIs, Bool.and_eq_true, decide_eq_true_eq] at h h'
  have key : ∀ {a b : GVer}, ((abvN V a : Int) < k) → ((uptN V b : Int) ≥ k) → verLessF a b = false := by
    intro a b h1 h2
    cases hl : verLessF a b with
    | false => rfl
    | true =>
      exfalso
      have : uptN V b ≤ abvN V a := countP_le_of fun x _ hx => by
        simp only [Bool.not_eq_true'] at hx
        rw [verLess_niff] at hx
        rw [verLess_iff] at hl ⊢
        omega
      omega
  exact verLess_conn (key h.1 h'.2) (key h'.1 h.2)
theorem kthF_of {V : List GVer} {k : Int} {v : GVer} (hm : v ∈ V) (h : kthIs V k v = true) : kthF V k = v := by
  unfold kthF
  cases hf : V.find? (kthIs V k) with
  | none => rw [List.find?_eq_none] at hf; exact absurd h (hf v hm)
  | some u => exact kth_uniq (List.find?_some hf) h
theorem kth_sorted {V d : List GVer} (hp : d.Perm V) (hs : ∀ (i j : Nat) (x y : GVer), i < j → d[i]? = some x → d[j]? = some y → verLessF x y = false) {n : Nat} {v : GVer} (hv : d[n]? = some v) : kthF V ((n : Int) + 1) = v := by
  have hn : n < d.length := by
    rcases Nat.lt_or_ge n d.length with h | h
    · exact h
    · rw [List.getElem?_eq_none h] at hv; cases hv
  have irr : verLessF v v = false := by rw [verLess_niff]; omega
  have hsv : ∀ (i j : Nat) (x y : GVer), i ≤ j → d[i]? = some x → d[j]? = some y → verLessF x y = false := fun i j x y hij hx hy => by
    rcases Nat.lt_or_ge i j with h | h
    · exact hs i j x y h hx hy
    · have : i = j := by omega
      subst this
      rw [hx] at hy
      cases hy
      rw [verLess_niff]; omega
  refine kthF_of (hp.subset (List.mem_of_getElem? hv)) ?_
  have h1 : abvN V v ≤ n := by
    unfold abvN
    rw [← hp.countP_eq]
    have e : d = d.take n ++ d.drop n := (List.take_append_drop n d).symm
    rw [e, List.countP_append]
    have z : (d.drop n).countP (fun w => verLessF v w) = 0 := by
      rw [List.countP_eq_zero]
      intro w hw
      obtain ⟨i, hi⟩ := List.getElem?_of_mem hw
      rw [List.getElem?_drop] at hi
      rw [hsv n (n + i) v w (by omega) hv hi]
      decide
    have := List.countP_le_length (p := fun w => verLessF v w) (l := d.take n)
    rw [List.length_take] at this
    omega
  have h2 : n + 1 ≤ uptN V v := by
    unfold uptN
    rw [← hp.countP_eq]
    have e : d = d.take (n + 1) ++ d.drop (n + 1) := (List.take_append_drop (n + 1) d).symm
    rw [e, List.countP_append]
    have z : (d.take (n + 1)).countP (fun w => !verLessF w v) = (d.take (n + 1)).length := by
      rw [List.countP_eq_length]
      intro w hw
      obtain ⟨i, hi⟩ := List.getElem?_of_mem hw
      rw [List.getElem?_take] at hi
      split at hi
      · rw [hsv i n w v (by omega) hi hv]; rfl
      · cases hi
    rw [z, List.length_take]
    omega
  simp only [kthIs, Bool.and_eq_true, decide_eq_true_eq]
  omega
def rowPV (n : Nat) (o : Option Nat) : PV := match o with | none => .v (.slice none 0 0) | some c => .s 1 n c 2
def rowBV (V : List GVer) (o : Option Nat) (b : Bx) : Bx := match o with | none => b | some _ => (1, cellsV V) :: b
def blk1 (N : Mem) (b : Nat) : Mem := fun a => if a.block = b then N a else none
theorem blk1_at {N : Mem} {b : Nat} {a : Addr} {u : Value} (h : blk1 N b a = some u) : a.block = b ∧ N a = some u := by
  unfold blk1 at h
  split at h
  · rename_i hb; exact ⟨hb, h⟩
  · cases h
theorem blk1_of {N : Mem} {b : Nat} {a : Addr} {u : Value} (hb : a.block = b) (h : N a = some u) : blk1 N b a = some u := by unfold blk1; rw [if_pos hb]; exact h
theorem blk1_no {N : Mem} {b : Nat} {a : Addr} {u : Value} (hn : blk1 N b a = none) (h : N a = some u) : a.block ≠ b := by
  intro hb
  rw [blk1_of hb h] at hn
  cases hn
theorem addB (ad : Addr) (o : Nat) : (ad.add o).block = ad.block := by unfold Addr.add; split <;> rfl
theorem cellsV_take {V : List GVer} {j : Nat} {v : GVer} (h : V[j]? = some v) : cellsV (V.take (j + 1)) = cellsV (V.take j) ++ [.int .i64 v.Epoch, .int .i64 v.Seq] := by
  unfold cellsV
  rw [List.take_add_one, h]
  simp [encV]
theorem allOneV : ∀ V : List GVer, allOne (cellsV V) = true
  | [] => rfl
  | x :: r => by
    show allOne (.int .i64 x.Epoch :: .int .i64 x.Seq :: cellsV r) = true
    simp only [allOne, allOneV r]
    rfl
theorem kthLast_a (M : Mem) (l : List GNotice) (A : Option Addr) (c : Nat) (h : SlR M RNotice 13 168 A c l) (hn : l.length ≤ 16) (k : Int) (hk1 : 1 ≤ k) (hk2 : k ≤ l.length) : AnsR Tryz.prog M 62 #[.slice A l.length c, .int .i64 k] (fun _ v => v = .agg #[.int .i64 (kthF (vsF l) k).Epoch, .int .i64 (kthF (vsF l) k).Seq]) := by
  refine ansR_of (T.at M) (l := [.slice A l.length c, .int .i64 k]) mixed Tryz.func62 rfl (by kernel_rfl) (Nat.le_of_ble_eq_true rfl) ?_ (fun _ ad u h1 h2 => by rw [show M ad = none from h1] at h2; cases h2)
  (conv => whnf)
  refine LoopK.sw 1 2 {q : Nat × Option Nat // q.1 ≤ l.length ∧ (q.2 = none → q.1 = 0) ∧ ∀ cp, q.2 = some cp → q.1 ≤ cp} (fun ⟨(j, o), _⟩ => [(1, .v (.int .i64 k)), (4, .p 0 0), (5, rowPV j o), (8, .v (.slice A l.length c)), (9, .v (.int .i64 (l.length : Int))), (10, .v (.int .i64 (j : Int)))]) (fun ⟨(j, o), _⟩ => rowBV ((vsF l).take j) o [(0, [.int .i64 0, .int .i64 0])]) (fun _ => M) (fun q => l.length - q.1.1) ⟨(0, none), Nat.zero_le _, fun _ => rfl, fun _ h => by cases h⟩ 1 ⟨⟨⟨rfl, rfl, rfl, rfl, rfl, rfl, trivial⟩, ⟨rfl, trivial⟩, rfl, rfl⟩, rfl⟩ ?_
  rintro ⟨⟨j, o⟩, hj, ho1, ho2⟩
  simp only at hj ho1 ho2
  (conv => whnf)
  refine CondK.mk (fun h1 => ?_) (fun h1 => ?_)
  · have hlt : j < l.length := by simpa using h1
    obtain ⟨y, hyk⟩ : ∃ y, l[j] = y := ⟨_, rfl⟩
    have hy : l[j]? = some y := by rw [List.getElem?_eq_getElem hlt, hyk]
    obtain ⟨ad, rfl, A0, c0, A1, c1, A2, c2, A3, c3, bnx, ⟨s0, s1, s2, s3⟩, x0, x1, x2, x3, x4, x5, x6, x7, x8, x9, x10, x11, x12⟩ := at_Notice h hy
    have e := cellsV_take (vsF_at hy)
    cases o with
    | none =>
      have hj0 : j = 0 := ho1 rfl
      subst hj0
      repeat' ((conv => whnf); first | refine IdxK.mk _ rfl (by omega) (by omega) ?_ | refine LdK.mk _ (by assumption) ?_ | refine CallK.mk _ (lastVer_a _ y.State _ ⟨_, _, _, _, _, _, _, _, rfl, trivial, s0, s1, s2, s3⟩) ?_ | refine AppK.mk (by decide) (by decide) (.inl (by decide)) rfl (fun cap3 hcap3 => ?_) | fail)
      exact ⟨⟨(1, some cap3), hlt, fun h => (by cases h), fun cp h => (by cases h; exact hcap3)⟩, 4, ⟨⟨rfl, rfl, rfl, rfl, rfl, rfl, trivial⟩, ⟨congrArg some e.symm, rfl, trivial⟩, rfl, rfl⟩, rfl, by simp only; omega⟩
    | some cap =>
      have hcp := ho2 cap rfl
      have hal := allOneV ((vsF l).take j)
      repeat' ((conv => whnf); first | refine IdxK.mk _ rfl (by omega) (by omega) ?_ | refine LdK.mk _ (by assumption) ?_ | refine CallK.mk _ (lastVer_a _ y.State _ ⟨_, _, _, _, _, _, _, _, rfl, trivial, s0, s1, s2, s3⟩) ?_ | refine AppK.mk (by show (2 * _ + 512) * 16 ≤ 281474976710656; omega) (by omega) (.inr rfl) (by first | exact hal | rfl) (fun cap3 hcap3 => ?_) | fail)
      exact ⟨⟨(j + 1, some cap3), hlt, fun h => (by cases h), fun cp h => (by cases h; exact hcap3)⟩, 4, ⟨⟨rfl, rfl, rfl, rfl, rfl, look_int (i64_succ (by omega)), trivial⟩, ⟨congrArg some e.symm, rfl, trivial⟩, rfl, rfl⟩, rfl, by simp only; omega⟩
  · have hjl : j = l.length := by
      have : ¬ j < l.length := by simpa using h1
      omega
    subst hjl
    cases o with
    | none => have := ho1 rfl; omega
    | some cap =>
      have hcp := ho2 cap rfl
      have hV : (vsF l).take l.length = vsF l := by rw [← vsF_len, List.take_length]
      (conv => whnf)
      refine PubK.fr fun ad M' hl hg hroom hap hdom => ?_
      (conv => whnf)
      rw [hV] at hg
      refine CallK.mg (blk1 M' ad.block) _ rfl (by have hq := sortVers_g (blk1 M' ad.block) ad cap (vsF l) (by rw [vsF_len]; omega) (by rw [vsF_len]; omega) (fun o u hu => blk1_of (addB _ _) (hg o u hu)) (fun a u hu => (blk1_at hu).1); rw [vsF_len] at hq; exact hq) (fun a u hu => (blk1_at hu).2) (fun a u hu => ?_) (fun a u a' u' h1 h2 h3 he => blk1_no h3 h2 (he ▸ (blk1_at h1).1)) (fun v Mx M2 hv hlx hkeep hdom2 hnew => ?_)
      · obtain ⟨g1, g2⟩ := blk1_at hu
        cases hm : M a with
        | none => exact hm
        | some w => exact absurd g1 (hap a w hm)
      obtain ⟨rfl, d', hp, hs, hc⟩ := hv
      obtain ⟨n, rfl⟩ : ∃ n : Nat, k = (n : Int) + 1 := ⟨(k - 1).toNat, by omega⟩
      have hnl : n < d'.length := by rw [hp.length_eq, vsF_len]; omega
      have hv : d'[n]? = some d'[n] := List.getElem?_eq_getElem hnl
      have hk := kth_sorted hp hs hv
      rw [hk]
      have ef : ∀ o u, (encV d'[n])[o]? = some u → M2 (ad.add (n * 2 + o)) = some u := fun o u hu => hlx _ _ (hc _ _ (flat_get (z := 2) (css := d'.map encV) (fun cs hc => by obtain ⟨x, _, rfl⟩ := List.mem_map.1 hc; rfl) (by rw [List.getElem?_map, hv]; rfl) hu))
      have y0 : M2 ((ad.add (n * 2)).add 0) = some (.int .i64 d'[n].Epoch) := by rw [add_add]; exact ef 0 _ rfl
      have y1 : M2 ((ad.add (n * 2)).add 1) = some (.int .i64 d'[n].Seq) := by rw [add_add]; exact ef 1 _ rfl
      (conv => whnf)
      have hi : IntKind.i64.wrap ((n : Int) + 1 - 1) = (n : Int) := by rw [i64_in (by omega) (by omega)]; omega
      refine IdxK.mk ad rfl (by rw [hi]; omega) (by rw [hi]; omega) ?_
      rw [hi]
      repeat' ((conv => whnf); first | refine LdK.mk _ (by assumption) ?_ | fail)
      exact RetK.mk fun _ _ _ _ => rfl
theorem notices_ok {l : List GNotice} (h : noticesOkF l = true) : ∀ y ∈ l, stateOkF y.State = true := fun y hy => by
  obtain ⟨j, hj⟩ := List.getElem?_of_mem hy
  have hjl : j < l.length := by
    rcases Nat.lt_or_ge j l.length with h' | h'
    · exact h'
    · rw [List.getElem?_eq_none h'] at hj; cases hj
  have h1 := allR_get h hjl
  have hp : j - 1 < l.length := by omega
  have h0 : 0 < l.length := by omega
  rw [noticeF_at hj (List.getElem?_eq_getElem hp) (List.getElem?_eq_getElem h0)] at h1
  simp only [Bool.and_eq_true] at h1
  exact h1.1.2
theorem find_step {V : List GVer} {f : GVer → Bool} {i : Nat} {v : GVer} (h : V[i]? = some v) : (V.drop i).find? f = if f v = true then some v else (V.drop (i + 1)).find? f := by
  have hi : i < V.length := by
    rcases Nat.lt_or_ge i V.length with h' | h'
    · exact h'
    · rw [List.getElem?_eq_none h'] at h; cases h
  have e : V[i] = v := by rw [List.getElem?_eq_getElem hi] at h; exact Option.some.inj h
  rw [List.drop_eq_getElem_cons hi, List.find?_cons, e]
  cases f v <;> rfl
theorem count_step {V : List GVer} {f : GVer → Bool} {j : Nat} {w : GVer} (h : V[j]? = some w) : (V.take (j + 1)).countP f = (V.take j).countP f + if f w = true then 1 else 0 := by
  rw [List.take_add_one, h, List.countP_append]
  simp only [Option.toList_some, List.countP_cons, List.countP_nil, Nat.zero_add]
theorem l22Kth_a (M : Mem) (l : List GNotice) (A : Option Addr) (c : Nat) (h : SlR M RNotice 13 168 A c l) (hok : ∀ y ∈ l, stateOkF y.State = true) (hn : l.length ≤ 16) (k : Int) : Ans Tryz.prog M 70 #[.slice A l.length c, .int .i64 k] (.agg #[.int .i64 (kthF (vsF l) k).Epoch, .int .i64 (kthF (vsF l) k).Seq]) := by
  refine ans_of T (l := [.slice A l.length c, .int .i64 k]) mixed Tryz.func70 rfl (by kernel_rfl) (Nat.le_of_ble_eq_true rfl) ?_
  have hlo : ∀ y ∈ l, ∀ cs, RPgState M y.State cs → Ans Tryz.prog M 106 #[.agg cs.toArray] (.agg #[.int .i64 (lastVerF y.State).Epoch, .int .i64 (lastVerF y.State).Seq]) := fun y hy cs hc => by
    have := sLastOf_a M y.State cs hc
    rwa [show lastOfF y.State = lastVerF y.State by unfold lastOfF; rw [hok y hy]; rfl] at this
  (conv => whnf)
  refine LoopK.mk {i : Nat // i ≤ l.length ∧ (vsF l).find? (kthIs (vsF l) k) = ((vsF l).drop i).find? (kthIs (vsF l) k)} (fun ⟨i, _⟩ => [(0, .v (.slice A l.length c)), (1, .v (.int .i64 k)), (4, .p 0 0), (5, .v (.int .i64 (i : Int)))]) (fun _ => [(0, [.int .i64 0, .int .i64 0])]) (fun _ => M) (fun q => l.length - q.1) ⟨0, Nat.zero_le _, rfl⟩ ⟨⟨⟨rfl, rfl, rfl, rfl, trivial⟩, ⟨rfl, trivial⟩, rfl, rfl⟩, rfl⟩ ?_
  rintro ⟨i, hi, hfi⟩
  (conv => whnf)
  refine CondK.mk (fun h1 => ?_) (fun h1 => ?_)
  · have hlt : i < l.length := by simpa using h1
    obtain ⟨y, hyk⟩ : ∃ y, l[i] = y := ⟨_, rfl⟩
    have hy : l[i]? = some y := by rw [List.getElem?_eq_getElem hlt, hyk]
    have hym : y ∈ l := List.mem_of_getElem? hy
    have hV := vsF_at hy
    obtain ⟨v, hv⟩ : ∃ v, lastVerF y.State = v := ⟨_, rfl⟩
    obtain ⟨ad, rfl, A0, c0, A1, c1, A2, c2, A3, c3, bnx, ⟨s0, s1, s2, s3⟩, x0, x1, x2, x3, x4, x5, x6, x7, x8, x9, x10, x11, x12⟩ := at_Notice h hy
    have hlv := hlo y hym _ ⟨_, _, _, _, _, _, _, _, rfl, trivial, s0, s1, s2, s3⟩
    rw [hv] at hV hlv
    repeat' ((conv => whnf); first | refine IdxK.mk _ rfl (by omega) (by omega) ?_ | refine LdK.mk _ (by assumption) ?_ | refine CallK.mk _ hlv ?_ | fail)
    refine LoopK.mk {j : Nat // j ≤ l.length} (fun ⟨j, _⟩ => [(0, .v (.slice (some ad) l.length c)), (1, .v (.int .i64 k)), (4, .p 0 0), (5, .v (.int .i64 (i : Int))), (6, .p 1 0), (7, .v (.int .i64 (((vsF l).take j).countP (fun w => verLessF v w) : Nat))), (8, .v (.int .i64 (((vsF l).take j).countP (fun w => !verLessF w v) : Nat))), (9, .v (.int .i64 (j : Int)))]) (fun _ => [(1, [.int .i64 v.Epoch, .int .i64 v.Seq]), (0, [.int .i64 0, .int .i64 0])]) (fun _ => M) (fun q => l.length - q.1) ⟨0, Nat.zero_le _⟩ ⟨⟨⟨rfl, rfl, rfl, rfl, rfl, rfl, rfl, rfl, trivial⟩, ⟨rfl, rfl, trivial⟩, rfl, rfl⟩, rfl⟩ ?_
    rintro ⟨j, hj⟩
    (conv => whnf)
    refine CondK.mk (fun h2 => ?_) (fun h2 => ?_)
    · have hlt2 : j < l.length := by simpa using h2
      obtain ⟨z, hzk⟩ : ∃ z, l[j] = z := ⟨_, rfl⟩
      have hz : l[j]? = some z := by rw [List.getElem?_eq_getElem hlt2, hzk]
      have hzm : z ∈ l := List.mem_of_getElem? hz
      have hW := vsF_at hz
      obtain ⟨w, hw⟩ : ∃ w, lastVerF z.State = w := ⟨_, rfl⟩
      obtain ⟨ad', hae, A0', c0', A1', c1', A2', c2', A3', c3', bny, ⟨t0, t1, t2, t3⟩, y0, y1, y2, y3, y4, y5, y6, y7, y8, y9, y10, y11, y12⟩ := at_Notice h hz
      cases hae
      have hlw := hlo z hzm _ ⟨_, _, _, _, _, _, _, _, rfl, trivial, t0, t1, t2, t3⟩
      rw [hw] at hW hlw
      have ea := count_step (f := fun w => verLessF v w) hW
      have eu := count_step (f := fun w => !verLessF w v) hW
      have ba := List.countP_le_length (p := fun w => verLessF v w) (l := (vsF l).take j)
      have bu := List.countP_le_length (p := fun w => !verLessF w v) (l := (vsF l).take j)
      rw [List.length_take] at ba bu
      have sa : IntKind.i64.wrap (((((vsF l).take j).countP (fun w => verLessF v w) : Nat) : Int) + 1) = _ := i64_succ (by omega)
      have su : IntKind.i64.wrap (((((vsF l).take j).countP (fun w => !verLessF w v) : Nat) : Int) + 1) = _ := i64_succ (by omega)
      have hvw := sVerLess_a M v w
      have hwv := sVerLess_a M w v
      cases q1 : verLessF v w <;> cases q2 : verLessF w v <;> rw [q1] at hvw ea <;> rw [q2] at hwv eu <;> simp only [if_true, Bool.false_eq_true, if_false, Nat.add_zero, Bool.not_true, Bool.not_false] at ea eu <;> (repeat' ((conv => whnf); first | with_reducible refine CondK.tt ?_ | with_reducible refine CondK.ff ?_ | refine IdxK.mk _ rfl (by omega) (by omega) ?_ | refine LdK.mk _ (by assumption) ?_ | refine CallK.mk _ hlw ?_ | refine CallK.mk _ hvw ?_ | refine CallK.mk _ hwv ?_ | fail)) <;> exact ⟨⟨j + 1, hlt2⟩, ⟨⟨rfl, rfl, rfl, rfl, rfl, look_int (by first | (rw [ea]; done) | (rw [ea]; exact sa)), look_int (by first | (rw [eu]; done) | (rw [eu]; exact su)), look_int (i64_succ (by omega)), trivial⟩, ⟨rfl, rfl, trivial⟩, rfl, rfl⟩, rfl, by simp only; omega⟩
    · have hjl : j = l.length := by
        have : ¬ j < l.length := by simpa using h2
        omega
      subst hjl
      have et : (vsF l).take l.length = vsF l := by rw [← vsF_len, List.take_length]
      have hst := find_step (f := kthIs (vsF l) k) hV
      have eq1 : decide (((((vsF l).take l.length).countP (fun w => verLessF v w) : Nat) : Int) < k) = decide (((abvN (vsF l) v : Nat) : Int) < k) := by rw [et]; rfl
      have eq2 : decide (((((vsF l).take l.length).countP (fun w => !verLessF w v) : Nat) : Int) ≥ k) = decide (((uptN (vsF l) v : Nat) : Int) ≥ k) := by rw [et]; rfl
      cases q : kthIs (vsF l) k v with
      | true =>
        have q' := q
        simp only [kthIs, Bool.and_eq_true] at q'
        rw [q, if_pos rfl] at hst
        have ek : kthF (vsF l) k = v := by unfold kthF; rw [hfi, hst]; rfl
        rw [ek]
        rw [q'.1] at eq1
        rw [q'.2] at eq2
        (conv => whnf)
        rw [eq1]
        (conv => whnf)
        refine CondK.yes' eq2 ?_
        (conv => whnf)
        exact rfl
      | false =>
        rw [q, if_neg (by decide)] at hst
        have fin : ∀ (x : Prop), x → x := fun _ h => h
        cases q1 : decide (((abvN (vsF l) v : Nat) : Int) < k) with
        | false =>
          rw [q1] at eq1
          (conv => whnf)
          rw [eq1]
          (conv => whnf)
          exact ⟨⟨i + 1, hlt, hfi.trans hst⟩, ⟨⟨rfl, rfl, rfl, look_int (i64_succ (by omega)), trivial⟩, ⟨rfl, trivial⟩, rfl, rfl⟩, rfl, by simp only; omega⟩
        | true =>
          have q2 : decide (((uptN (vsF l) v : Nat) : Int) ≥ k) = false := by
            unfold kthIs at q
            rw [q1, Bool.true_and] at q
            exact q
          rw [q1] at eq1
          rw [q2] at eq2
          (conv => whnf)
          rw [eq1]
          (conv => whnf)
          refine CondK.no' eq2 ?_
          (conv => whnf)
          exact ⟨⟨i + 1, hlt, hfi.trans hst⟩, ⟨⟨rfl, rfl, rfl, look_int (i64_succ (by omega)), trivial⟩, ⟨rfl, trivial⟩, rfl, rfl⟩, rfl, by simp only; omega⟩
  · have hil : i = l.length := by
      have : ¬ i < l.length := by simpa using h1
      omega
    subst hil
    have ek : kthF (vsF l) k = ⟨0, 0⟩ := by
      unfold kthF
      rw [hfi, List.drop_eq_nil_of_le (by rw [vsF_len]; exact Nat.le_refl _)]
      rfl
    rw [ek]
    (conv => whnf)
    exact rfl
end Go.Proofs.YtgeofmoojifkmaaGreat.Hlp
