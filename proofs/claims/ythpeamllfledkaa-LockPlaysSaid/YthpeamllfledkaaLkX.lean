/- Who holds: what is given, who is let in. -/
import Derived.Test.YthpeamllfledkaaLkW
set_option linter.unusedVariables false
set_option linter.unusedSimpArgs false
namespace Go.Mod

def waitA (ak : List Ask) : List Ask := ak.filter fun a => !a.holds
theorem waitA_vals (ak : List Ask) : i64s (waitL ak) = (waitA ak).map fun a => Value.int .i64 (a.n : Int) := by simp [i64s, waitL, waitA]
theorem rankG_mem {key : Ask → Int} : ∀ (wa : List Ask) (ps : List (Int × Int)) (x : Int), x ∈ idsR (rankG key ps wa) → x ∈ idsR ps ∨ ∃ a ∈ wa, (a.n : Int) = x
  | [], ps, x, h => .inl h
  | a :: wa, ps, x, h => by
    rcases rankG_mem wa _ x h with h | ⟨b, hb, e⟩
    · split at h
      · obtain ⟨p, hp, e⟩ := List.mem_map.1 h
        rcases mem_putAt.1 hp with rfl | hp
        · exact .inr ⟨a, by simp, e⟩
        · exact .inl (List.mem_map.2 ⟨p, hp, e⟩)
      · exact .inl h
    · exact .inr ⟨b, by simp [hb], e⟩
theorem rankG_len {key : Ask → Int} : ∀ (wa : List Ask) (ps : List (Int × Int)), (rankG key ps wa).length ≤ ps.length + wa.length
  | [], ps => Nat.le_refl _
  | a :: wa, ps => by
    refine Nat.le_trans (rankG_len wa _) ?_
    split
    · rw [putAt_len (posR_le _ _)]; simp; omega
    · simp
section
variable {mp : FuncId → Option MDef} {H H0 H1 : MH} {F : List Nat} {l : Nat} {s : SetL} {L : Lay} {es : List (Int × Value)} {cnt : Int} {wl : List Int} {bs ak : List Ask} {ts : List Chn} {bx : Nat}
theorem R_gives {fk ff : FuncId} {key : Ask → Int} {free : List Ask → Int → Bool} (hf : mp 35 = some (.code m35)) (h58 : mp 58 = some (.code m58)) (h49 : mp 49 = some (.code m49)) (h55 : mp 55 = some (.code m55)) (h59 : mp 59 = some (.code m59)) (h75 : mp 75 = some (.intr (insertS 2))) (h60 : mp 60 = some (.code m60))
    (h42 : mp 42 = some (.code m42)) (h63 : mp 63 = some (.code (cDelete 1 8 [.int .i64 0])))
    (hkey : ∀ H', LkV H' l s L (ak.map entC) cnt (waitL ak) ak ts → H'[bx]? = some (lB l) → ∀ a ∈ ak, R mp fk [.int .i64 (a.n : Int), .pointer (some ⟨bx, 0, none⟩)] H' = some (.int .i64 (key a), H'))
    (hfree : ∀ H' ak', LkV H' l s L (ak'.map entC) cnt (waitL ak') ak' ts → H'[bx]? = some (lB l) → ∀ res : Int, 0 ≤ res → res < (s.homes.length : Int) → R mp ff [.int .i64 res, .pointer (some ⟨bx, 0, none⟩)] H' = some (.bool (free ak' res), H'))
    (h : LkA l s L cnt ak ts H F) (ho : Out bx (lB l) H F) (hu : uniqA ak) (hlen : ak.length ≤ 12) (hres : ∀ a ∈ ak, 0 ≤ a.res ∧ a.res < (s.homes.length : Int)) :
    ∃ H' F', R mp 35 [.pointer (some ⟨l, 0, none⟩), .func (.func fk) #[] #[.pointer (some ⟨bx, 0, none⟩)], .func (.func ff) #[] #[.pointer (some ⟨bx, 0, none⟩)]] H = some (.tuple #[], H') ∧
      LkA l s L cnt (giveF free ak (idsR (rankG key [] (waitA ak)))) ts H' F' ∧ Upd H F H' F' := by
  have V := LkV.of h
  obtain ⟨H1, e1, p1, x1⟩ := R_knew (mp := mp) (H := H) h58 (x := 64)
  have V1 := V.ext x1
  have hl1 := ld_at V1.loc
  simp only [lkC] at hl1
  obtain ⟨lv, lfp, hline⟩ := V1.line
  obtain ⟨v', X, fp', e2, hown, hrow, hfp, hblk, sa, sn, sc, rfl⟩ := R_all (mp := mp) h49 h55 hline
  have x2 : Ext H1 (H1 ++ X) := ⟨X, rfl⟩
  have x12 := x1.trans x2
  have hlt := LkA.good.lt h
  have hH1 : H.length < H1.length := RankA.good.lt p1 H.length (by simp)
  have hwl : (waitA ak).length ≤ 12 := Nat.le_trans (List.length_filter_le _ _) hlen
  have hsn : sn = (waitA ak).length := by
    obtain ⟨a, n, c, e, hl⟩ := hrow.slice
    cases e
    rw [waitA_vals, List.length_map] at hl; omega
  have u12 : Upd H [] (H1 ++ X) [H.length] := ⟨x12.len, fun id h1 _ => (ext_get x12 h1), fun id hid => .inr (by simp at hid; omega)⟩
  obtain ⟨H3, G3, e3, p3, u3⟩ := gives_in (mp := mp) (l := l) (s := s) (L := L) (cnt := cnt) (ak := ak) (ts := ts) (bx := bx) (fv := .func (.func ff) #[] #[.pointer (some ⟨bx, 0, none⟩)]) h59 h75 hkey hu (r := H.length) (sa := sa) (sn := sn) (sc := sc) (waitA ak) (fun a ha => (List.mem_filter.1 ha).1) hsn hwl
    (waitA ak).length 0 (H1 ++ X) F [H.length] [] (by omega) (by simp; omega) (LkA.good.ext h x12) (RankA.good.ext p1 x2) (fun x hx hm => by have := hlt x hx; simp at hm; omega)
    ⟨x12.get ho.1, fun hm => by simp at hm; have := (List.getElem?_eq_some_iff.1 ho.1).1; omega⟩ ⟨by rw [← waitA_vals]; exact hrow, fun b o n c e hm => by simp at hm; have := hblk b o n c e; omega⟩
  rw [List.drop_zero] at p3
  have x3 : Ext H H3 := (u12.trans u3).toExt.1
  obtain ⟨v'', H4, G4, e4, o4, x4, n4⟩ := R_kall (mp := mp) h60 p3
  have x34 := x3.trans x4
  obtain ⟨sa', sn', sc', rfl, hsl⟩ := (Own.row o4).slice
  rw [i64s_len] at hsl
  have hlenr : (idsR (rankG key [] (waitA ak))).length ≤ 12 := by
    rw [idsR_len]; have := rankG_len (key := key) (waitA ak) []; simp at this; omega
  obtain ⟨H5, F5, e5, p5, u5⟩ := gives_out (mp := mp) (l := l) (s := s) (L := L) (cnt := cnt) (ts := ts) (bx := bx) h42 h63 hfree (sa := sa') (sn := sn') (sc := sc') (idsR (rankG key [] (waitA ak))) (by omega) (by omega)
    (idsR (rankG key [] (waitA ak))).length 0 H4 F ak (by omega) hu hres (fun n hn => by
      rcases rankG_mem _ _ n hn with h | ⟨a, ha, e⟩
      · simp [idsR] at h
      · exact List.mem_map.2 ⟨a, (List.mem_filter.1 ha).1, e⟩) (LkA.good.ext h x34) ⟨x34.get ho.1, ho.2⟩ ⟨Own.row o4, fun b o n c e hm => by
        have h1 := Own.blk o4 b o n c e
        have h2 := n4 b h1
        have h3 := hlt b hm
        have h4 := x3.len
        omega⟩
  rw [List.drop_zero] at p5
  refine ⟨H5, F5, ?_, p5, (Upd.ext x34).trans u5⟩
  rw [R_code hf]
  simp at e3 e5
  simp [m35, e1, hl1, e2, e3, e4, e5]
end
end Go.Mod
