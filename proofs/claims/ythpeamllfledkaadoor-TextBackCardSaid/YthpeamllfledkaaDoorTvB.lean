/- Package text: what is printed is read again (plain). -/
import Derived.Test.YthpeamllfledkaaDoorTvA
set_option linter.unusedVariables false
set_option linter.unusedSimpArgs false
namespace Go.Mod
open Go.Lib

def taskR (t : TaskL) : List Bs := kTask :: taskN t :: ([t.period, t.deadline, t.prio, t.cluster].map textL ++ t.parts.map partT)
def homesR (s : SetL) : List (List Bs) := if s.homes = [] then [] else [kHomes :: s.homes.map textL]
def rowsP (s : SetL) : List (List Bs) := [kProtocol, wordN s.proto.toNat] :: (kCores :: s.cores.map textL) :: (homesR s ++ s.tasks.map taskR)
theorem nums_flat (ns : List Int) : (ns.map textL).flatMap (fun x => 32 :: x) = numsT ns := by simp [numsT, List.flatMap_map]
theorem task_join (t : TaskL) : joinB (taskR t) ++ [10] = taskT t := by
  have h1 := nums_flat [t.period, t.deadline, t.prio, t.cluster]
  have h2 : (t.parts.map partT).flatMap (fun x => 32 :: x) = partsT t.parts := by simp [partsT, List.flatMap_map]
  have e : joinB (taskR t) = kTask ++ (taskN t :: ([t.period, t.deadline, t.prio, t.cluster].map textL ++ t.parts.map partT)).flatMap fun x => 32 :: x := rfl
  rw [e, List.flatMap_cons, List.flatMap_append, h1, h2]
  unfold taskT taskH
  simp [kTask]
theorem print_lines (s : SetL) : printL s = linesB ((rowsP s).map joinB) := by
  have hc := nums_flat s.cores
  have hh := nums_flat s.homes
  have ht : linesB ((s.tasks.map taskR).map joinB) = tasksT s.tasks := by
    unfold linesB tasksT
    rw [List.flatMap_map, List.flatMap_map]
    congr 1
    funext t
    exact task_join t
  have hhm : linesB ((homesR s).map joinB) = homesS s := by
    unfold homesR homesS
    split
    · rfl
    · simp only [List.map_cons, List.map_nil, linesB, List.flatMap_cons, List.flatMap_nil, joinB]
      rw [hh]; simp
  have happ : ∀ a b : List Bs, linesB (a ++ b) = linesB a ++ linesB b := fun a b => by simp [linesB]
  unfold printL rowsP headS
  rw [List.map_cons, List.map_cons, List.map_append]
  show _ = linesB (joinB _ :: joinB _ :: (_ ++ _))
  have e : ∀ (x y : Bs) (l : List Bs), linesB (x :: y :: l) = x ++ ([10] ++ (y ++ ([10] ++ linesB l))) := fun x y l => by simp [linesB]
  rw [e, happ, hhm, ht]
  simp only [joinB]
  rw [hc]
  simp [kProtB, kProtocol]
theorem good_name {t : TaskL} (h : nameB t.name) : GoodW (taskN t) := by
  have hb : ∀ c ∈ taskN t, 48 ≤ c.toNat := fun c hc => by
    obtain ⟨i, hi⟩ := List.mem_iff_getElem?.1 hc
    have h1 : t.name[i]? = some c := by rw [name_B t, B_get]; exact hi
    have := h.1 i c h1
    unfold goodB at this
    omega
  have hne : taskN t ≠ [] := fun e => by
    have h1 := h.2.1
    rw [name_B t, B_size, e] at h1
    simp at h1
  exact ⟨hne, fun hc => absurd (hb _ hc) (by decide), fun hc => absurd (hb _ hc) (by decide), fun hc => absurd (hb _ hc) (by decide)⟩
theorem wordN_good {p : Nat} (h : 1 ≤ p ∧ p ≤ 3) : GoodW (wordN p) ∧ protoN (wordN p) = (p : Int) := by
  obtain rfl | rfl | rfl : p = 1 ∨ p = 2 ∨ p = 3 := by omega
  all_goals (unfold GoodW wordN; decide)

section
variable {s : SetL}
theorem task_nums {t : TaskL} (h1 : formOk t) (h2 : 0 ≤ t.cluster ∧ t.cluster < (s.cores.length : Int)) (h3 : s.cores.length ≤ 3) : ∀ n ∈ [t.period, t.deadline, t.prio, t.cluster], 0 ≤ n ∧ n ≤ 9999999 := by
  obtain ⟨_, ⟨a1, a2⟩, ⟨b1, b2⟩, c1, c2⟩ := h1
  intro n hn
  simp only [List.mem_cons, List.not_mem_nil, or_false] at hn
  rcases hn with rfl | rfl | rfl | rfl <;> omega
theorem tail_parts {nh : Nat} (hnh : nh ≤ 1000) : ∀ {ps : List PartL}, (∀ p ∈ ps, partOk nh p) → tailL (ps.map partT) = some ps
  | [], _ => rfl
  | p :: ps, h => by
    have h1 := (reads_part (h p (by simp)) hnh).1
    rw [List.map_cons]
    unfold tailL
    rw [h1, if_pos rfl, tail_parts hnh fun x hx => h x (by simp [hx])]
    rfl
theorem read_task {t : TaskL} {nh : Nat} (hnh : nh ≤ 1000) (hn : ∀ n ∈ [t.period, t.deadline, t.prio, t.cluster], 0 ≤ n ∧ n ≤ 9999999) (hp : ∀ p ∈ t.parts, partOk nh p) : taskL (taskR t) = some t.plain := by
  have e1 : ((taskR t).drop 2).take 4 = [t.period, t.deadline, t.prio, t.cluster].map textL := rfl
  have e2 : (taskR t).drop 6 = t.parts.map partT := rfl
  have e3 : (taskR t).getD 1 [] = taskN t := rfl
  have e4 : ¬ (taskR t).length < 6 := by simp [taskR]
  unfold taskL
  rw [if_neg e4, e1, e2, e3, numsL_text hn, tail_parts hnh hp, ← name_B]
  rfl
theorem read_tasks {nh : Nat} (hnh : nh ≤ 1000) : ∀ (ts : List TaskL) (i : Nat), (∀ t ∈ ts, (∀ n ∈ [t.period, t.deadline, t.prio, t.cluster], 0 ≤ n ∧ n ≤ 9999999) ∧ ∀ p ∈ t.parts, partOk nh p) → tasksL (numR i (ts.map taskR)) = .inl (ts.map TaskL.plain)
  | [], _, _ => rfl
  | t :: ts, i, h => by
    have h1 := h t (by simp)
    rw [List.map_cons, List.map_cons]
    unfold numR tasksL
    have e : (taskR t).getD 0 [] = kTask := rfl
    rw [if_neg (fun h => h e), read_task hnh h1.1 h1.2, read_tasks hnh ts (i + 1) fun x hx => h x (by simp [hx])]
theorem numR_len : ∀ (l : List (List Bs)) (i : Nat), (numR i l).length = l.length
  | [], _ => rfl
  | w :: l, i => by simp [numR, numR_len l (i + 1)]

theorem ok_all (hok : (checkE s).2 = 0) : ∀ t ∈ s.tasks, formOk t ∧ (0 ≤ t.cluster ∧ t.cluster < (s.cores.length : Int)) ∧ partsOk s.homes.length t.parts := fun t ht => by
  obtain ⟨_, _, _, _, h5⟩ := ok_facts hok
  obtain ⟨j, hj⟩ := firstE_ok s s.tasks 0 h5 t ht
  obtain ⟨h1, h2, _, h4⟩ := taskE_ok hj
  exact ⟨h1, h2, h4⟩
theorem rows_good (hok : (checkE s).2 = 0) : ∀ r ∈ rowsP s, r ≠ [] ∧ ∀ w ∈ r, GoodW w := by
  obtain ⟨hp, ⟨⟨hc1, hc3, hh4⟩, hcs, hhs⟩, ht6, htn, _⟩ := ok_facts hok
  have hall := ok_all hok
  intro r hr
  unfold rowsP homesR at hr
  rcases List.mem_cons.1 hr with rfl | hr
  · refine ⟨by simp, fun w hw => ?_⟩
    simp only [List.mem_cons, List.not_mem_nil, or_false] at hw
    rcases hw with rfl | rfl
    · unfold GoodW; decide
    · exact (wordN_good ⟨by omega, by omega⟩).1
  rcases List.mem_cons.1 hr with rfl | hr
  · refine ⟨by simp, fun w hw => ?_⟩
    rcases List.mem_cons.1 hw with rfl | hw
    · unfold GoodW; decide
    · obtain ⟨n, hn, rfl⟩ := List.mem_map.1 hw
      have := hcs n hn
      exact good_text ⟨by omega, by omega⟩
  rcases List.mem_append.1 hr with hr | hr
  · split at hr
    · cases hr
    · simp only [List.mem_cons, List.not_mem_nil, or_false] at hr
      subst hr
      refine ⟨by simp, fun w hw => ?_⟩
      rcases List.mem_cons.1 hw with rfl | hw
      · unfold GoodW; decide
      · obtain ⟨n, hn, rfl⟩ := List.mem_map.1 hw
        have := hhs n hn
        exact good_text ⟨by omega, by omega⟩
  · obtain ⟨t, ht, rfl⟩ := List.mem_map.1 hr
    obtain ⟨h1, h2, h4⟩ := hall t ht
    refine ⟨by simp [taskR], fun w hw => ?_⟩
    unfold taskR at hw
    rcases List.mem_cons.1 hw with rfl | hw
    · unfold GoodW; decide
    rcases List.mem_cons.1 hw with rfl | hw
    · exact good_name h1.1
    rcases List.mem_append.1 hw with hw | hw
    · obtain ⟨n, hn, rfl⟩ := List.mem_map.1 hw
      exact good_text (task_nums (s := s) h1 h2 hc3 n hn)
    · obtain ⟨p, hp, rfl⟩ := List.mem_map.1 hw
      exact (reads_part (h4.1 p hp) (by omega)).2
theorem print_len (hok : (checkE s).2 = 0) : (printL s).length ≤ 2000 := by
  obtain ⟨hp, ⟨⟨hc1, hc3, hh4⟩, _, _⟩, ht6, htn, _⟩ := ok_facts hok
  have h1 := numsT_len s.cores
  have h2 := numsT_len s.homes
  have h3 := wordN_len s.proto.toNat
  have hall : ∀ l : List TaskL, (∀ t ∈ l, t.parts.length ≤ 6 ∧ (taskN t).length ≤ 8) → (tasksT l).length ≤ 172 * l.length := by
    intro l
    induction l with
    | nil => intro _; simp [tasksT]
    | cons t l ih =>
      intro h
      have h1 := taskT_len t
      have h2 := h t (by simp)
      have h3 := ih fun x hx => h x (by simp [hx])
      unfold tasksT at h3 ⊢
      rw [List.flatMap_cons, List.length_append, List.length_cons]; omega
  have h4 := hall s.tasks (ok_small hok)
  have h5 : (homesS s).length ≤ 6 + 8 * s.homes.length := by
    unfold homesS
    split
    · simp
    · simp [kHomes]; omega
  unfold printL headS
  simp only [List.length_append, kProtB, kCores, List.length_cons, List.length_nil]
  omega
/-- What is printed of a set that may be is read as that set. -/
theorem parse_print (hok : (checkE s).2 = 0) : parseL (printL s) = .inr (s.plain, (rowsP s).length) := by
  obtain ⟨hp, ⟨⟨hc1, hc3, hh4⟩, hcs, hhs⟩, ht6, htn, _⟩ := ok_facts hok
  have hall := ok_all hok
  have hgood := rows_good hok
  have hlen := print_len hok
  have hlines : trimE (cutAt 10 (printL s)) = (rowsP s).map joinB := by
    rw [print_lines, cut_lines _ (fun l hl => by
      obtain ⟨r, hr, rfl⟩ := List.mem_map.1 hl
      exact (words_join (hgood r hr).1 (hgood r hr).2).2), trim_lines]
  have hrows : rowsL 0 ((rowsP s).map joinB) = numR 0 (rowsP s) := rows_lines _ 0 hgood
  have hcn : numsL (s.cores.map textL) = some s.cores := numsL_text fun n hn => by have := hcs n hn; omega
  have hhn : numsL (s.homes.map textL) = some s.homes := numsL_text fun n hn => by have := hhs n hn; omega
  have hcne : s.cores ≠ [] := fun e => by rw [e] at hc1; simp at hc1
  have hw := wordN_good (p := s.proto.toNat) ⟨by omega, by omega⟩
  have hpw : protoN (wordN s.proto.toNat) = s.proto := by rw [hw.2]; omega
  have hp0 : ¬ s.proto = 0 := by omega
  have htk := read_tasks (nh := s.homes.length) (by omega) s.tasks
  have hread := fun i => htk i fun t ht => ⟨task_nums (s := s) (hall t ht).1 (hall t ht).2.1 hc3, (hall t ht).2.2.1⟩
  have hck : (checkE (plainSet s.proto s.cores s.homes (s.tasks.map TaskL.plain))).2 = 0 := by
    have := checkE_plain s
    unfold SetL.plain at this
    rw [this]; exact hok
  unfold parseL
  rw [if_neg (by omega)]
  simp only [hlines, hrows, List.length_map]
  have hhead : headL (numR 0 (rowsP s)) = ⟨s.proto, s.cores, s.homes, if s.homes = [] then 2 else 3, true⟩ ∧ (numR 0 (rowsP s)).drop (if s.homes = [] then 2 else 3) = numR (if s.homes = [] then 2 else 3) (s.tasks.map taskR) := by
    unfold rowsP homesR
    by_cases hh : s.homes = []
    · rw [if_pos hh, if_pos hh]
      obtain ⟨t, ts, hts⟩ := List.exists_cons_of_ne_nil htn
      have e : numR 0 ([kProtocol, wordN s.proto.toNat] :: (kCores :: s.cores.map textL) :: ([] ++ s.tasks.map taskR)) = (0, [kProtocol, wordN s.proto.toNat]) :: (1, kCores :: s.cores.map textL) :: (2, taskR t) :: numR 3 (ts.map taskR) := by rw [hts]; rfl
      constructor
      · rw [e]
        unfold headL
        have e1 : ([kProtocol, wordN s.proto.toNat] : List Bs).getD 1 [] = wordN s.proto.toNat := rfl
        have e2 : ([kProtocol, wordN s.proto.toNat] : List Bs).getD 0 [] = kProtocol := rfl
        have e3 : (kCores :: s.cores.map textL).getD 0 [] = kCores := rfl
        have e4 : (kCores :: s.cores.map textL).drop 1 = s.cores.map textL := rfl
        have e5 : ¬ (taskR t).getD 0 [] = kHomes := by
          have : (taskR t).getD 0 [] = kTask := rfl
          rw [this]; decide
        simp only [e1, e2, e3, e4, hpw, hcn]
        rw [if_neg (fun h => h ⟨trivial, rfl⟩), if_neg hp0, if_neg (fun h => h trivial), if_neg hcne, if_pos e5, hh]
      · rw [e, hts]; rfl
    · rw [if_neg hh, if_neg hh]
      have e : numR 0 ([kProtocol, wordN s.proto.toNat] :: (kCores :: s.cores.map textL) :: ([kHomes :: s.homes.map textL] ++ s.tasks.map taskR)) = (0, [kProtocol, wordN s.proto.toNat]) :: (1, kCores :: s.cores.map textL) :: (2, kHomes :: s.homes.map textL) :: numR 3 (s.tasks.map taskR) := rfl
      constructor
      · rw [e]
        unfold headL
        have e1 : ([kProtocol, wordN s.proto.toNat] : List Bs).getD 1 [] = wordN s.proto.toNat := rfl
        have e2 : ([kProtocol, wordN s.proto.toNat] : List Bs).getD 0 [] = kProtocol := rfl
        have e3 : (kCores :: s.cores.map textL).getD 0 [] = kCores := rfl
        have e4 : (kCores :: s.cores.map textL).drop 1 = s.cores.map textL := rfl
        have e5 : (kHomes :: s.homes.map textL).getD 0 [] = kHomes := rfl
        have e6 : (kHomes :: s.homes.map textL).drop 1 = s.homes.map textL := rfl
        simp only [e1, e2, e3, e4, e5, e6, hpw, hcn, hhn]
        rw [if_neg (fun h => h ⟨trivial, rfl⟩), if_neg hp0, if_neg (fun h => h trivial), if_neg hcne, if_neg (fun h => h trivial), if_neg hh]
      · rw [e]; rfl
  rw [hhead.1]
  simp only [hhead.2]
  rw [if_neg (by decide), hread]
  simp only [hck, if_true]
  rfl
end
end Go.Mod
