/- The library's functions at this program, as intrinsics; the package variables that they read. -/
import Derived.Test.YthpeamllfledkaaDoorShD
import Derived.Test.YthpeamllfledkaaDoorGrH
import Derived.Test.YthpeamllfledkaaDoorGrC
set_option linter.unusedVariables false
namespace Go.Mod
open Go.Proofs Go.RowKit Go.Sort

/-- The four package variables that the library reads. -/
structure Vars (W : World) : Prop where
  synt : ∃ ev, W.cell? ⟨0, 0, none⟩ = some ev ∧ (ev = .nilIface ∨ ∃ te pe, ev = .iface te pe)
  rng : ∃ ev, W.cell? ⟨1, 0, none⟩ = some ev ∧ (ev = .nilIface ∨ ∃ te pe, ev = .iface te pe)
  max : ∃ m, W.cell? ⟨2, 0, none⟩ = some (.int .i64 m)
  pow : Lib.TabIs Tryd.prog W "internal/strconv.uint64pow10" .u64 Lib.pow10Tab

/-- What these four hold in the world in which the call is made. -/
@[reducible] def globs (W : World) : Glob := ⟨fun b => if b < 4 then W.heap[b]? else none⟩

theorem Vars.at {W w : World} (h : Vars W) (hg : @GlobAt (globs W) w) : Vars w := by
  have hb : ∀ b o, b < 4 → W.heap[b]? = some o → w.heap[b]? = some o := fun b o hlt ho => hg b o (by show (if b < 4 then W.heap[b]? else none) = _; rw [if_pos hlt]; exact ho)
  have hc : ∀ b i v, b < 4 → W.cell? ⟨b, i, none⟩ = some v → w.cell? ⟨b, i, none⟩ = some v := fun b i v hlt hv => by
    cases hW : W.heap[b]? with
    | none => simp [World.cell?, hW] at hv
    | some o =>
      have := hb b o hlt hW
      simp only [World.cell?, hW] at hv
      simp only [World.cell?, this]
      exact hv
  obtain ⟨e1, a1, b1⟩ := h.synt
  obtain ⟨e2, a2, b2⟩ := h.rng
  obtain ⟨m, a3⟩ := h.max
  refine ⟨⟨e1, hc _ _ _ (by omega) a1, b1⟩, ⟨e2, hc _ _ _ (by omega) a2, b2⟩, ⟨m, hc _ _ _ (by omega) a3⟩, ?_⟩
  have hp := h.pow
  unfold Lib.TabIs World.var? at hp ⊢
  have hgn : Tryd.prog.globalNamed "internal/strconv.uint64pow10" = some 3 := by kernel_rfl
  rw [hgn] at hp ⊢
  cases hW : W.heap[3]? with
  | none => simp [hW] at hp
  | some o =>
    have := hb 3 o (by omega) hW
    simp only [hW, Option.bind_some] at hp
    simp only [this, Option.bind_some]
    exact hp

theorem below_grow (w : World) (k : Nat) (os : Array Obj) : Below w.heap.size w (grow (w.drewN k) os) := by
  refine ⟨rfl, rfl, rfl, ?_, fun i hi => ?_⟩
  · show _ ≤ ((w.drewN k).heap ++ os).size
    simp [World.drewN]
  · show ((w.drewN k).heap ++ os)[i]? = _
    exact Array.getElem?_append_left hi

section
variable [Glob]
theorem i30 (hV : ∀ w, GlobAt w → Vars w) : IntrOk Tryd.prog 30 (atoiS 105) := by
  refine atoi_ok ⟨_, Tryd.func30, by kernel_rfl, by kernel_rfl⟩ (fun s v w hs h => ?_) (fun s w hs g1 g2 hg => ?_) (fun s w hs h hg => ?_)
  · refine (Tryd.strconv_Atoi_ok s (by omega) v h w).mono fun e w' ⟨he, hw⟩ => ⟨he, ?_⟩
    rcases hw with rfl | ⟨t, rfl⟩
    · exact Below.refl _ _
    · exact Lib.bytesWorld_below _ _ _
  · obtain ⟨ev, h1, h2⟩ := (hV w hg).synt
    rcases hq : Lib.atoiAll s.data.toList with v | _ | _
    · exact absurd hq (g1 v)
    · exact (Any.strconv_Atoi_syntax Tryd.laysC172 s (by omega) hq ev w h1 h2).mono fun e w' ⟨N, he, hN, hat, hB⟩ => ⟨N, he, hN, (Array.getElem?_eq_some_iff.1 hat).1, hB⟩
    · exact absurd hq g2
  · obtain ⟨ev, h1, h2⟩ := (hV w hg).rng
    exact (Tryd.strconv_Atoi_range s (by omega) h ev w h1 h2).mono fun e w' ⟨N, he, hN, hat, hB⟩ => ⟨N, he, hN, (Array.getElem?_eq_some_iff.1 hat).1, hB⟩
theorem i31 (hV : ∀ w, GlobAt w → Vars w) : IntrOk Tryd.prog 31 (scalS itoaG) :=
  itoa_ok ⟨_, Tryd.func31, by kernel_rfl, by kernel_rfl⟩ fun n w h0 h1 hg => (Tryd.strconv_Itoa n (by omega) (by omega) w (hV w hg).pow).mono fun e w' ⟨he, k, os, hw⟩ => ⟨he, hw ▸ below_grow w k os⟩
theorem i32 (hV : ∀ w, GlobAt w → Vars w) : IntrOk Tryd.prog 32 splitS :=
  split_ok ⟨_, Tryd.func32, by kernel_rfl, by kernel_rfl⟩ fun s sep w h1 h2 hg => let ⟨m, hm⟩ := (hV w hg).max; Tryd.strings_Split s sep m w h1 hm h2
theorem i34 (hV : ∀ w, GlobAt w → Vars w) : IntrOk Tryd.prog 34 (scalS cutG) :=
  cut_ok ⟨_, Tryd.func34, by kernel_rfl, by kernel_rfl⟩ fun s sep w h1 hg => let ⟨m, hm⟩ := (hV w hg).max; Tryd.strings_Cut s sep m w h1 hm
end
end Go.Mod
