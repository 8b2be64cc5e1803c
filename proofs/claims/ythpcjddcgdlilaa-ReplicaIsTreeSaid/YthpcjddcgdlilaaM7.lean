/- Parts of the proof: ChPaint, ReplAny, ChAny, ReplTree, ChTree, Frame. -/
import Derived.Test.YthpcjddcgdlilaaM1
import Derived.Test.YthpcjddcgdlilaaM2
import Derived.Test.YthpcjddcgdlilaaM3
import Derived.Test.YthpcjddcgdlilaaM4
import Derived.Test.YthpcjddcgdlilaaM5
import Derived.Test.YthpcjddcgdlilaaM6
import Derived.Test.YthpcjddcgdlilaaRows
import Derived.JoinedOf
import Derived.ProofKit
section
set_option linter.unusedVariables false
set_option linter.unusedSimpArgs false
set_option maxRecDepth 100000
set_option maxHeartbeats 4000000
open Go Go.Proofs Go.Ab
namespace Go.Ch
theorem fc_paints (raw : List Int) (site : Int) : FC Try.prog 8 [VL 1 intT raw, VI site] (app emp []) (VL 8 dopT (paintI raw site)) (app emp []) := by
 refine .go Try.f8 ?_
 refine .len 0 (fun hl0 => ?_)
 refine .loop (α := Nat × Int × (List DOp)) [.r [], .r [], .r [], .r [(1, X (Xl intT raw)), (2, X (Xmin (raw.length : Int) 12))], .le (.nR 5 8)] 81 (fun (i, o32c1, o) => ([(1, VI site), (5, .row 80 o.length), (6, .ptr 32 0), (14, VI (min (raw.length : Int) 12)), (15, VI (i : Int))], [(32, .box [VL 1 intT raw, VI o32c1]), (80, OR 8 dopT o)])) (fun (i, o32c1, o) => i ≤ min raw.length 12 ∧ o32c1 = 5 * (i : Int) ∧ o = paintL raw site i) (fun (i, o32c1, o) => 12 - i) (0, 0, []) ?_ ?_
 ·
  exact ⟨by omega, by omega, rfl⟩
 rintro ⟨i, o32c1, o⟩ I4 ih4
 try dsimp only at I4
 refine .br [.r []] (decide ((i : Int) < (min (raw.length : Int) 12))) (fun h4 => ?_) (fun h4 => ?_)
 ·
  (try simp only [decide_eq_true_eq, decide_eq_false_iff_not, Int.not_lt, Int.not_le] at h4)
  have hr : 0 < raw.length := by omega
  have u1 : rollU raw o32c1 = o32c1 + 1 := by (simp only [rollU_one hr]; try omega)
  have u2 : rollU raw (rollU raw o32c1) = o32c1 + 2 := by (simp only [rollU_one hr]; try omega)
  have u3 : rollU raw (rollU raw (rollU raw o32c1)) = o32c1 + 3 := by (simp only [rollU_one hr]; try omega)
  have u4 : rollU raw (rollU raw (rollU raw (rollU raw o32c1))) = o32c1 + 4 := by (simp only [rollU_one hr]; try omega)
  have u5 : rollU raw (rollU raw (rollU raw (rollU raw (rollU raw o32c1)))) = o32c1 + 5 := by (simp only [rollU_one hr]; try omega)
  have v0 := rollV_bd raw o32c1 (n := 2) (by decide)
  have v1 := rollV_bd raw (rollU raw o32c1) (n := 6) (by decide)
  have v2 := rollV_bd raw (rollU raw (rollU raw o32c1)) (n := 3) (by decide)
  have v3 := rollV_bd raw (rollU raw (rollU raw (rollU raw o32c1))) (n := 2) (by decide)
  have v4 := rollV_bd raw (rollU raw (rollU raw (rollU raw o32c1))) (n := 8) (by decide)
  have v5 := rollV_bd raw (rollU raw (rollU raw (rollU raw (rollU raw o32c1)))) (n := 3) (by decide)
  have hol : o.length = i := by rw [I4.2.2, paintL_len]
  refine .br [.r [], .r [(1, X (Xn ((i : Int) * 2))), (2, X (Xn (1 + ((i : Int) * 2)))), (4, X (Xc3 137 [(0, 32)] (fc_roll raw o32c1 2 (by omega) (by omega) (by omega)) X0)), (5, X (Xn ((1 + ((i : Int) * 2)) + (rollV raw o32c1 2)))), (8, X (Xc3 169 [(0, 32)] (fc_roll raw (rollU raw o32c1) 6 (by omega) (by omega) (by omega)) X0)), (9, X (Xn (1 + (rollV raw (rollU raw o32c1) 6))))], .r [(1, X (Xc3 217 [(0, 32)] (fc_roll raw (rollU raw (rollU raw o32c1)) 3 (by omega) (by omega) (by omega)) X0))]] ((rollV raw (rollU raw (rollU raw o32c1)) 3) == 0) (fun h7 => ?_) (fun h7 => ?_)
  ·
   (try simp only [beq_iff_eq, beq_eq_false_iff_ne, ne_eq] at h7)
   refine .back [.r [(2, X (Xc3 249 [(0, 32)] (fc_roll raw (rollU raw (rollU raw (rollU raw o32c1))) 2 (by omega) (by omega) (by omega)) X0)), (3, X (Xp strT [{ data := #[120] }, { data := #[121] }] (rollV raw (rollU raw (rollU raw (rollU raw o32c1))) 2))), (4, X (Xe strT [{ data := #[120] }, { data := #[121] }] (Int.toNat (rollV raw (rollU raw (rollU raw (rollU raw o32c1))) 2)))), (7, X (Xc3 289 [(0, 32)] (fc_roll raw (rollU raw (rollU raw (rollU raw (rollU raw o32c1)))) 3 (by omega) (by omega) (by omega)) X0)), (8, X (Xp strT [{ data := #[] }, { data := #[49] }, { data := #[50] }] (rollV raw (rollU raw (rollU raw (rollU raw (rollU raw o32c1)))) 3))), (9, X (Xe strT [{ data := #[] }, { data := #[49] }, { data := #[50] }] (Int.toNat (rollV raw (rollU raw (rollU raw (rollU raw (rollU raw o32c1)))) 3))))], .r [(3, X (rowC dopT [({ clock := ((1 + ((i : Int) * 2)) + (rollV raw o32c1 2)), site := site, kind := 1, itm := (1 + (rollV raw (rollU raw o32c1) 6)), prt := 0, plc := { data := #[] }, nm := ([{ data := #[120] }, { data := #[121] }].getD (Int.toNat (rollV raw (rollU raw (rollU raw (rollU raw o32c1))) 2)) default), vl := ([{ data := #[] }, { data := #[49] }, { data := #[50] }].getD (Int.toNat (rollV raw (rollU raw (rollU raw (rollU raw (rollU raw o32c1)))) 3)) default) } : DOp)] (Xap 8 dopT 80 o [({ clock := ((1 + ((i : Int) * 2)) + (rollV raw o32c1 2)), site := site, kind := 1, itm := (1 + (rollV raw (rollU raw o32c1) 6)), prt := 0, plc := { data := #[] }, nm := ([{ data := #[120] }, { data := #[121] }].getD (Int.toNat (rollV raw (rollU raw (rollU raw (rollU raw o32c1))) 2)) default), vl := ([{ data := #[] }, { data := #[49] }, { data := #[50] }].getD (Int.toNat (rollV raw (rollU raw (rollU raw (rollU raw (rollU raw o32c1)))) 3)) default) } : DOp)])))], .r [(0, X (Xn ((i : Int) + 1)))]] [(32, 32), (80, 80)] (ih4 ((i + 1), (rollU raw (rollU raw (rollU raw (rollU raw (rollU raw o32c1))))), (o ++ [({ clock := ((1 + ((i : Int) * 2)) + (rollV raw o32c1 2)), site := site, kind := 1, itm := (1 + (rollV raw (rollU raw o32c1) 6)), prt := 0, plc := { data := #[] }, nm := ([{ data := #[120] }, { data := #[121] }].getD (Int.toNat (rollV raw (rollU raw (rollU raw (rollU raw o32c1))) 2)) default), vl := ([{ data := #[] }, { data := #[49] }, { data := #[50] }].getD (Int.toNat (rollV raw (rollU raw (rollU raw (rollU raw (rollU raw o32c1)))) 3)) default) } : DOp)])) ?_ ?_)
   ·
    refine ⟨by omega, by omega, ?_⟩
    rw [paintL_succ, ← I4.2.2]; congr 1
    unfold paintO
    have e : 5 * (i : Int) = o32c1 := I4.2.1.symm
    rw [e]
    simp only [rollU_one hr, Int.add_assoc, Int.reduceAdd] at h7 ⊢
    first | (rw [if_pos h7]; rfl) | (rw [if_neg h7]; rfl)
   ·
    ((try dsimp only); omega)
  ·
   (try simp only [beq_iff_eq, beq_eq_false_iff_ne, ne_eq] at h7)
   refine .back [.r [(1, X (Xc3 241 [(0, 32)] (fc_roll raw (rollU raw (rollU raw (rollU raw o32c1))) 8 (by omega) (by omega) (by omega)) X0)), (2, X (Xn ((rollV raw (rollU raw (rollU raw (rollU raw o32c1))) 8) - 1))), (5, X (Xc3 273 [(0, 32)] (fc_roll raw (rollU raw (rollU raw (rollU raw (rollU raw o32c1)))) 3 (by omega) (by omega) (by omega)) X0)), (6, X (Xp strT [{ data := #[98] }, { data := #[99] }, { data := #[100] }] (rollV raw (rollU raw (rollU raw (rollU raw (rollU raw o32c1)))) 3))), (7, X (Xe strT [{ data := #[98] }, { data := #[99] }, { data := #[100] }] (Int.toNat (rollV raw (rollU raw (rollU raw (rollU raw (rollU raw o32c1)))) 3))))], .r [(3, X (rowC dopT [({ clock := ((1 + ((i : Int) * 2)) + (rollV raw o32c1 2)), site := site, kind := 0, itm := (1 + (rollV raw (rollU raw o32c1) 6)), prt := ((rollV raw (rollU raw (rollU raw (rollU raw o32c1))) 8) - 1), plc := ([{ data := #[98] }, { data := #[99] }, { data := #[100] }].getD (Int.toNat (rollV raw (rollU raw (rollU raw (rollU raw (rollU raw o32c1)))) 3)) default), nm := { data := #[] }, vl := { data := #[] } } : DOp)] (Xap 8 dopT 80 o [({ clock := ((1 + ((i : Int) * 2)) + (rollV raw o32c1 2)), site := site, kind := 0, itm := (1 + (rollV raw (rollU raw o32c1) 6)), prt := ((rollV raw (rollU raw (rollU raw (rollU raw o32c1))) 8) - 1), plc := ([{ data := #[98] }, { data := #[99] }, { data := #[100] }].getD (Int.toNat (rollV raw (rollU raw (rollU raw (rollU raw (rollU raw o32c1)))) 3)) default), nm := { data := #[] }, vl := { data := #[] } } : DOp)])))], .r [(0, X (Xn ((i : Int) + 1)))]] [(32, 32), (80, 80)] (ih4 ((i + 1), (rollU raw (rollU raw (rollU raw (rollU raw (rollU raw o32c1))))), (o ++ [({ clock := ((1 + ((i : Int) * 2)) + (rollV raw o32c1 2)), site := site, kind := 0, itm := (1 + (rollV raw (rollU raw o32c1) 6)), prt := ((rollV raw (rollU raw (rollU raw (rollU raw o32c1))) 8) - 1), plc := ([{ data := #[98] }, { data := #[99] }, { data := #[100] }].getD (Int.toNat (rollV raw (rollU raw (rollU raw (rollU raw (rollU raw o32c1)))) 3)) default), nm := { data := #[] }, vl := { data := #[] } } : DOp)])) ?_ ?_)
   ·
    refine ⟨by omega, by omega, ?_⟩
    rw [paintL_succ, ← I4.2.2]; congr 1
    unfold paintO
    have e : 5 * (i : Int) = o32c1 := I4.2.1.symm
    rw [e]
    simp only [rollU_one hr, Int.add_assoc, Int.reduceAdd] at h7 ⊢
    first | (rw [if_pos h7]; rfl) | (rw [if_neg h7]; rfl)
   ·
    ((try dsimp only); omega)
 ·
  (try simp only [decide_eq_true_eq, decide_eq_false_iff_not, Int.not_lt, Int.not_le] at h4)
  have e1 : ((paintI raw site) : List DOp) = o := by
   have hi : i = min raw.length 12 := by omega
   rw [I4.2.2, hi]; rfl
  exact .finE [.r [], .le (.fr 4 [(o.length : Nat) = (List.map dopT o).length] ⟨lm, trivial⟩)] [] (fun z0 => (VL 8 dopT z0, [])) (o : List DOp) ((paintI raw site) : List DOp) e1
end Go.Ch
end
section
set_option linter.unusedVariables false
set_option linter.unusedSimpArgs false
set_option maxRecDepth 100000
namespace Go.Ch
open Go Go.Ab

theorem ltO_asym {a b : DOp} (h : ltO a b) : ¬ ltO b a := by unfold ltO at *; omega
theorem getDO {l : List DOp} {i : Nat} (h : i < l.length) : l.getD i default = l[i] := by simp [List.getD, List.getElem?_eq_getElem h]
theorem srt_iff {l : List DOp} : l.Pairwise ltO ↔ ∀ i, i + 1 < l.length → ltO (l.getD i default) (l.getD (i + 1) default) := by
  rw [List.pairwise_iff_getElem]
  constructor
  · intro h i hi
    rw [getDO (by omega), getDO hi]
    exact h i (i + 1) _ _ (by omega)
  · intro h i j hi hj hij
    obtain ⟨d, rfl⟩ : ∃ d, j = i + 1 + d := ⟨j - i - 1, by omega⟩
    clear hij
    induction d with
    | zero => have := h i (by omega); rwa [getDO (by omega), getDO (by omega)] at this
    | succ d ih =>
      have h1 := ih (by omega)
      have h2 := h (i + 1 + d) (by omega)
      rw [getDO (by omega), getDO (by omega)] at h2
      exact ltO_trans h1 h2
theorem draw_iff {l : List DOp} : drawE l 0 = 0 ↔ (∀ o ∈ l, opE o = 0) ∧ l.Pairwise ltO := by
  rw [drawE_iff, srt_iff]
  constructor
  · rintro ⟨h1, h2⟩
    refine ⟨fun o ho => ?_, h2⟩
    obtain ⟨i, hi, rfl⟩ := List.mem_iff_getElem.1 ho
    rw [← getDO hi]; exact h1 i hi
  · rintro ⟨h1, h2⟩
    exact ⟨fun i hi => by rw [getDO hi]; exact h1 _ (List.getElem_mem hi), h2⟩
/-- Operations of which no two have one stamp. -/
structure UOk (U : List DOp) : Prop where
  op : ∀ o ∈ U, opE o = 0
  uq : ∀ a ∈ U, ∀ b ∈ U, ¬ ltO a b → ¬ ltO b a → a = b
structure VU (U z : List DOp) : Prop where
  srt : z.Pairwise ltO
  sub : ∀ o ∈ z, o ∈ U
theorem VU.ok {U z : List DOp} (hU : UOk U) (h : VU U z) : drawE z 0 = 0 := draw_iff.2 ⟨fun o ho => hU.op o (h.sub o ho), h.srt⟩
theorem VU.nil (U : List DOp) : VU U [] := ⟨.nil, fun o ho => by cases ho⟩
theorem VU.drop {U z : List DOp} (h : VU U z) (n : Nat) : VU U (z.drop n) := ⟨h.srt.sublist (List.drop_sublist _ _), fun o ho => h.sub o (List.mem_of_mem_drop ho)⟩
theorem union_mem {U : List DOp} (hU : UOk U) (x y : List DOp) : VU U x → VU U y → ∃ z, unionO x y = some z ∧ VU U z ∧ ∀ o, o ∈ z ↔ o ∈ x ∨ o ∈ y := by
  have tl : ∀ {a : DOp} {l : List DOp}, VU U (a :: l) → VU U l := fun h => ⟨(List.pairwise_cons.1 h.srt).2, fun o ho => h.sub o (List.mem_cons_of_mem _ ho)⟩
  have hd : ∀ {a : DOp} {l : List DOp}, VU U (a :: l) → ∀ o ∈ l, ltO a o := fun h => (List.pairwise_cons.1 h.srt).1
  have mk : ∀ {a : DOp} {z : List DOp}, a ∈ U → VU U z → (∀ o ∈ z, ltO a o) → VU U (a :: z) := fun h1 h2 h3 => ⟨List.pairwise_cons.2 ⟨h3, h2.srt⟩, fun o ho => by
    rcases List.mem_cons.1 ho with rfl | ho
    · exact h1
    · exact h2.sub o ho⟩
  induction x, y using unionO.induct with
  | case1 => intro h1 h2; exact ⟨[], by rw [unionO], h1, fun o => by simp⟩
  | case2 a l ih =>
    intro h1 h2
    obtain ⟨z, e, hz, hm⟩ := ih (tl h1) h2
    refine ⟨a :: z, by rw [unionO, e]; rfl, mk (h1.sub a List.mem_cons_self) hz (fun o ho => ?_), fun o => ?_⟩
    · rcases (hm o).1 ho with h | h
      · exact hd h1 o h
      · cases h
    · rw [List.mem_cons, List.mem_cons, hm]; simp
  | case3 b r ih =>
    intro h1 h2
    obtain ⟨z, e, hz, hm⟩ := ih h1 (tl h2)
    refine ⟨b :: z, by rw [unionO, e]; rfl, mk (h2.sub b List.mem_cons_self) hz (fun o ho => ?_), fun o => ?_⟩
    · rcases (hm o).1 ho with h | h
      · cases h
      · exact hd h2 o h
    · rw [List.mem_cons, List.mem_cons, hm]; simp
  | case4 a l b r hab ih =>
    intro h1 h2
    obtain ⟨z, e, hz, hm⟩ := ih (tl h1) h2
    refine ⟨a :: z, by rw [unionO, if_pos hab, e]; rfl, mk (h1.sub a List.mem_cons_self) hz (fun o ho => ?_), fun o => ?_⟩
    · rcases (hm o).1 ho with h | h
      · exact hd h1 o h
      · rcases List.mem_cons.1 h with rfl | h
        · exact hab
        · exact ltO_trans hab (hd h2 o h)
    · rw [List.mem_cons, hm, List.mem_cons (b := a), or_assoc]
  | case5 a l b r hab hba ih =>
    intro h1 h2
    obtain ⟨z, e, hz, hm⟩ := ih h1 (tl h2)
    refine ⟨b :: z, by rw [unionO, if_neg hab, if_pos hba, e]; rfl, mk (h2.sub b List.mem_cons_self) hz (fun o ho => ?_), fun o => ?_⟩
    · rcases (hm o).1 ho with h | h
      · rcases List.mem_cons.1 h with rfl | h
        · exact hba
        · exact ltO_trans hba (hd h1 o h)
      · exact hd h2 o h
    · rw [List.mem_cons, hm, List.mem_cons (b := b)]
      constructor
      · rintro (h | h | h)
        · exact .inr (.inl h)
        · exact .inl h
        · exact .inr (.inr h)
      · rintro (h | h | h)
        · exact .inr (.inl h)
        · exact .inl h
        · exact .inr (.inr h)
  | case6 l a r hab hba ih =>
    intro h1 h2
    obtain ⟨z, e, hz, hm⟩ := ih (tl h1) (tl h2)
    refine ⟨a :: z, by rw [unionO, if_neg hab, if_neg hba, if_pos rfl, e]; rfl, mk (h1.sub a List.mem_cons_self) hz (fun o ho => ?_), fun o => ?_⟩
    · rcases (hm o).1 ho with h | h
      · exact hd h1 o h
      · exact hd h2 o h
    · rw [List.mem_cons, hm, List.mem_cons, List.mem_cons]
      constructor
      · rintro (h | h | h)
        · exact .inl (.inl h)
        · exact .inl (.inr h)
        · exact .inr (.inr h)
      · rintro ((h | h) | (h | h))
        · exact .inl h
        · exact .inr (.inl h)
        · exact .inl h
        · exact .inr (.inr h)
  | case7 a l b r hab hba hne =>
    intro h1 h2
    exact absurd (hU.uq a (h1.sub a List.mem_cons_self) b (h2.sub b List.mem_cons_self) hab hba) hne
def uni (x y : List DOp) : List DOp := (unionO x y).getD []
theorem VU.uni {U x y : List DOp} (hU : UOk U) (hx : VU U x) (hy : VU U y) : VU U (uni x y) := by
  obtain ⟨z, e, hz, -⟩ := union_mem hU x y hx hy
  unfold Ch.uni; rw [e]; exact hz
theorem uni_some {U x y : List DOp} (hU : UOk U) (hx : VU U x) (hy : VU U y) : unionO x y = some (uni x y) := by
  obtain ⟨z, e, hz, -⟩ := union_mem hU x y hx hy
  unfold uni; rw [e]; rfl
theorem srt_nodup {z : List DOp} (h : z.Pairwise ltO) : z.Nodup := h.imp (fun h e => by subst e; exact absurd h (by unfold ltO; omega))
theorem nodup_sub {α : Type} : ∀ (w its : List α), w.Nodup → (∀ x ∈ w, x ∈ its) → w.length ≤ its.length
  | [], its, _, _ => Nat.zero_le _
  | a :: w, its, hn, hs => by
    rw [List.nodup_cons] at hn
    obtain ⟨s, t, rfl⟩ := List.append_of_mem (hs a List.mem_cons_self)
    have := nodup_sub w (s ++ t) hn.2 (fun x hx => by
      have := hs x (List.mem_cons_of_mem _ hx)
      simp only [List.mem_append, List.mem_cons] at this ⊢
      rcases this with h | h | h
      · exact .inl h
      · subst h; exact absurd hx hn.1
      · exact .inr h)
    simp only [List.length_append, List.length_cons] at *; omega
theorem VU.len {U z : List DOp} (h : VU U z) : z.length ≤ U.length := nodup_sub z U (srt_nodup h.srt) h.sub
theorem VU.eq {U x y : List DOp} (hx : VU U x) (hy : VU U y) (h : ∀ o, o ∈ x ↔ o ∈ y) : x = y :=
  perm_strict (R := ltO) (fun a b => ltO_asym) ((List.perm_ext_iff_of_nodup (srt_nodup hx.srt) (srt_nodup hy.srt)).2 h) hx.srt hy.srt

/-! ### What is painted is valid -/
theorem byt_one (c : UInt8) : byt (chS c) 0 = c.toNat := rfl
theorem name_one {c : UInt8} (h : 97 ≤ c.toNat ∧ c.toNat ≤ 122) : nameGo (chS c) = true := by
  unfold nameGo
  have hs : (chS c).size = 1 := rfl
  rw [nmS, hs, byt_one, if_pos (by omega), if_neg (by unfold badC; omega), nmS, hs, if_neg (by omega)]
  simp; omega
theorem val_one {c : UInt8} (h : 32 ≤ c.toNat ∧ c.toNat ≤ 126) : valGo (chS c) = true := by
  unfold valGo
  have hs : (chS c).size = 1 := rfl
  rw [vlS, hs, byt_one, if_pos (by omega), if_neg (by omega), vlS, hs, if_neg (by omega)]
  simp
theorem paintO_ok (raw : List Int) {site : Int} (hs : 0 ≤ site ∧ site ≤ 1000) {i : Nat} (hi : i < 12) : opE (paintO raw site i) = 0 ∧ (paintO raw site i).site = site ∧ 1 + i * 2 ≤ (paintO raw site i).clock ∧ (paintO raw site i).clock ≤ 2 + i * 2 ∧ 1 ≤ (paintO raw site i).itm ∧ (paintO raw site i).itm ≤ 6 ∧ (paintO raw site i).prt ≤ 6 := by
  have v0 := rollV_bd raw (5 * i) (n := 2) (by decide)
  have v1 := rollV_bd raw (5 * i + 1) (n := 6) (by decide)
  have v3 := rollV_bd raw (5 * i + 3) (n := 2) (by decide)
  have v4 := rollV_bd raw (5 * i + 3) (n := 8) (by decide)
  have v5 := rollV_bd raw (5 * i + 4) (n := 3) (by decide)
  have hm : seq mt mt = true := seq_refl mt
  unfold paintO
  generalize rollV raw (5 * i + 3) 2 = r3 at *
  generalize rollV raw (5 * i + 3) 8 = r8 at *
  generalize rollV raw (5 * i + 4) 3 = r4 at *
  generalize rollV raw (5 * i + 1) 6 = r1 at *
  generalize rollV raw (5 * i) 2 = r0 at *
  split
  · have hn : nameGo (pkN r3) = true := by
      have : r3 = 0 ∨ r3 = 1 := by omega
      rcases this with rfl | rfl
      · exact name_one (c := 120) (by decide)
      · exact name_one (c := 121) (by decide)
    have hv : seq (pkV r4) mt = true ∨ valGo (pkV r4) = true := by
      have : r4 = 0 ∨ r4 = 1 ∨ r4 = 2 := by omega
      rcases this with rfl | rfl | rfl
      · exact .inl hm
      · exact .inr (val_one (c := 49) (by decide))
      · exact .inr (val_one (c := 50) (by decide))
    refine ⟨?_, rfl, by simp; omega, by simp; omega, by simp; omega, by simp; omega, by simp⟩
    unfold opE
    simp only []
    rw [if_neg (by omega), if_neg (by omega), if_neg (by rw [hm]; simp), if_neg (by omega), if_neg (by rw [hn]; simp), if_neg]
    rintro ⟨-, h1, h2⟩
    rcases hv with h | h
    · rw [h] at h1; cases h1
    · rw [h] at h2; cases h2
  · have hp : placeB (pkP r4) = true := by
      have : r4 = 0 ∨ r4 = 1 ∨ r4 = 2 := by omega
      rcases this with rfl | rfl | rfl
      · exact place_one (c := 98) (by decide) (by decide)
      · exact place_one (c := 99) (by decide) (by decide)
      · exact place_one (c := 100) (by decide) (by decide)
    refine ⟨?_, rfl, by simp; omega, by simp; omega, by simp; omega, by simp; omega, by simp; omega⟩
    unfold opE
    simp only []
    rw [if_neg (by omega), if_neg (by omega), if_neg (by rw [hm]; simp), if_neg (by omega), if_neg (by rw [hp]; simp), if_neg (by omega)]
theorem paint_mem {raw : List Int} {site : Int} {o : DOp} (h : o ∈ paintI raw site) : ∃ i, i < 12 ∧ o = paintO raw site i := by
  unfold paintI paintL at h
  obtain ⟨i, hi, rfl⟩ := List.mem_map.1 h
  rw [List.mem_range] at hi
  exact ⟨i, by omega, rfl⟩
theorem paint_site {raw : List Int} {site : Int} (hs : 0 ≤ site ∧ site ≤ 1000) {o : DOp} (h : o ∈ paintI raw site) : opE o = 0 ∧ o.site = site ∧ o.clock ≤ 24 ∧ 1 ≤ o.itm ∧ o.itm ≤ 6 ∧ o.prt ≤ 6 := by
  obtain ⟨i, hi, rfl⟩ := paint_mem h
  obtain ⟨h1, h2, h3, h4, h5, h6, h7⟩ := paintO_ok raw hs hi
  exact ⟨h1, h2, by omega, h5, h6, h7⟩
theorem paint_srt (raw : List Int) {site : Int} (hs : 0 ≤ site ∧ site ≤ 1000) : (paintI raw site).Pairwise ltO := by
  unfold paintI paintL
  rw [List.pairwise_map, List.pairwise_iff_getElem]
  intro i j hi hj hij
  simp only [List.length_range] at hi hj
  simp only [List.getElem_range]
  have h1 := paintO_ok raw hs (i := i) (by omega)
  have h2 := paintO_ok raw hs (i := j) (by omega)
  unfold ltO
  omega
theorem paint_uq {U : List DOp} (h : ∀ o ∈ U, ∃ raw site, (0 ≤ site ∧ site ≤ 1000) ∧ o ∈ paintI raw site ∧ ∀ b ∈ U, b.site = site → b ∈ paintI raw site) : UOk U := by
  refine ⟨fun o ho => ?_, fun a ha b hb h1 h2 => ?_⟩
  · obtain ⟨raw, site, hs, hm, -⟩ := h o ho
    exact (paint_site hs hm).1
  · obtain ⟨raw, site, hs, hm, hall⟩ := h a ha
    have ea := (paint_site hs hm).2.1
    have eb : b.site = site := by unfold ltO at h1 h2; omega
    have hb' := hall b hb eb
    have hp := paint_srt raw hs
    have := List.pairwise_iff_getElem.1 hp
    obtain ⟨i, hi, e1⟩ := List.mem_iff_getElem.1 hm
    obtain ⟨j, hj, e2⟩ := List.mem_iff_getElem.1 hb'
    rcases Nat.lt_trichotomy i j with k | k | k
    · have := this i j hi hj k; rw [e1, e2] at this; exact absurd this h1
    · subst k; rw [← e1, ← e2]
    · have := this j i hj hi k; rw [e1, e2] at this; exact absurd this h2
def U3 (p q r : List Int) : List DOp := paintI p 1 ++ (paintI q 2 ++ paintI r 3)
theorem U3_ok (p q r : List Int) : UOk (U3 p q r) := by
  have s1 : ∀ o ∈ paintI p 1, o.site = 1 := fun o ho => (paint_site (by decide) ho).2.1
  have s2 : ∀ o ∈ paintI q 2, o.site = 2 := fun o ho => (paint_site (by decide) ho).2.1
  have s3 : ∀ o ∈ paintI r 3, o.site = 3 := fun o ho => (paint_site (by decide) ho).2.1
  have key : ∀ b ∈ U3 p q r, (b.site = 1 → b ∈ paintI p 1) ∧ (b.site = 2 → b ∈ paintI q 2) ∧ (b.site = 3 → b ∈ paintI r 3) := fun b hb => by
    unfold U3 at hb
    simp only [List.mem_append] at hb
    rcases hb with h | h | h
    · have := s1 b h; exact ⟨fun _ => h, fun _ => by omega, fun _ => by omega⟩
    · have := s2 b h; exact ⟨fun _ => by omega, fun _ => h, fun _ => by omega⟩
    · have := s3 b h; exact ⟨fun _ => by omega, fun _ => by omega, fun _ => h⟩
  refine paint_uq fun o ho => ?_
  have ho' := ho
  unfold U3 at ho'
  simp only [List.mem_append] at ho'
  rcases ho' with h | h | h
  · exact ⟨p, 1, by decide, h, fun b hb e => (key b hb).1 e⟩
  · exact ⟨q, 2, by decide, h, fun b hb e => (key b hb).2.1 e⟩
  · exact ⟨r, 3, by decide, h, fun b hb e => (key b hb).2.2 e⟩
theorem U3_len (p q r : List Int) : (U3 p q r).length ≤ 36 := by
  have := paintI_len p 1; have := paintI_len q 2; have := paintI_len r 3
  unfold U3; simp only [List.length_append]; omega
theorem U3_1 (p q r : List Int) : VU (U3 p q r) (paintI p 1) := ⟨paint_srt p (by decide), fun o ho => by unfold U3; simp [ho]⟩
theorem U3_2 (p q r : List Int) : VU (U3 p q r) (paintI q 2) := ⟨paint_srt q (by decide), fun o ho => by unfold U3; simp [ho]⟩
theorem U3_3 (p q r : List Int) : VU (U3 p q r) (paintI r 3) := ⟨paint_srt r (by decide), fun o ho => by unfold U3; simp [ho]⟩
macro "vu" : tactic => `(tactic| repeat' (first | assumption | exact U3_ok _ _ _ | exact U3_1 _ _ _ | exact U3_2 _ _ _ | exact U3_3 _ _ _ | exact VU.nil _ | apply VU.drop | apply VU.uni))
abbrev noO : List DOp := []
end Go.Ch
end
section
set_option linter.unusedVariables false
set_option linter.unusedSimpArgs false
set_option maxRecDepth 100000
set_option maxHeartbeats 4000000
open Go Go.Proofs Go.Ab
namespace Go.Ch
theorem fc_joinU (U : List DOp) (a b : List DOp) (hU : UOk U) (hu : U.length ≤ 1000) (ha : VU U a) (hb : VU U b) : FC Try.prog 9 [VL 8 dopT a, VL 8 dopT b] (app emp []) (.tup [VL 8 dopT (uni a b), VI 0]) (app emp []) := by
  have l1 := ha.len
  have l2 := hb.len
  have h := fc_djoin a b (by omega)
  have e1 : (if drawE a 0 = 0 ∧ drawE b 0 = 0 then (unionO a b).getD [] else []) = uni a b := by rw [if_pos ⟨ha.ok hU, hb.ok hU⟩]; rfl
  have e2 : (if drawE a 0 ≠ 0 then drawE a 0 else if drawE b 0 ≠ 0 then drawE b 0 else if (unionO a b).isSome then 0 else 6) = 0 := by rw [ha.ok hU, hb.ok hU, uni_some hU ha hb]; rfl
  rw [e1, e2] at h
  exact h

end Go.Ch
end
section
set_option linter.unusedVariables false
set_option linter.unusedSimpArgs false
set_option maxRecDepth 100000
namespace Go.Ch
open Go Go.Ab

variable {its : List DItem} {r : Int → Nat}
theorem kidsI_sorted (h : Its its r) (p : Int) : (kidsI its p).Pairwise fun a b => ltP a b = true := srtP_sorted (filter_uniq h.uq _)
theorem walk_kid {n : Nat} {p : Int} {x : DItem} (hn : 0 < n) (hx : x ∈ its) (hp : x.parent = p) : x ∈ walkI its n p := by
  cases n with
  | zero => omega
  | succ n =>
    simp only [walkI, List.mem_flatMap]
    exact ⟨x, kidsI_mem.2 ⟨hx, hp⟩, List.mem_cons_self⟩
/-- Whoever is below one that is shown is shown. -/
theorem walk_closed (h : Its its r) : ∀ (n : Nat) {p : Int} {x y : DItem}, 0 ≤ p → mu its r p ≤ n → y ∈ walkI its n p → x ∈ its → x.parent = y.item → x ∈ walkI its n p
  | 0, p, x, y, _, _, hy, _, _ => by simp [walkI] at hy
  | n + 1, p, x, y, hp, hn, hy, hx, e => by
    simp only [walkI, List.mem_flatMap, List.mem_cons] at hy ⊢
    obtain ⟨k, hk, hy⟩ := hy
    obtain ⟨k1, k2⟩ := kidsI_mem.1 hk
    have hm := mu_kid h k1 (by omega)
    rw [k2] at hm
    refine ⟨k, hk, .inr ?_⟩
    rcases hy with rfl | hy
    · exact walk_kid (by have := mu_pos its r y.item; omega) hx e
    · exact walk_closed h n (Int.le_of_lt (h.pos k k1)) (by omega) hy hx e
/-- Children of one parent stand in the order of their places. -/
theorem walk_order (h : Its its r) : ∀ (n : Nat) {p : Int}, 0 ≤ p → (walkI its n p).Pairwise fun a b => a.parent = b.parent → ltP a b = true
  | 0, p, _ => by simp [walkI]
  | n + 1, p, hp => by
    simp only [walkI]
    have hu := kidsI_uniq h p
    have hs := kidsI_sorted h p
    have hk : ∀ x ∈ kidsI its p, x ∈ its ∧ x.parent = p := fun x hx => kidsI_mem.1 hx
    generalize kidsI its p = l at *
    induction l with
    | nil => simp
    | cons x l ih =>
      obtain ⟨h1, h2⟩ := hk x List.mem_cons_self
      simp only [UniqI, List.map_cons, List.nodup_cons] at hu
      rw [List.pairwise_cons] at hs
      simp only [List.flatMap_cons]
      rw [List.pairwise_append]
      refine ⟨List.pairwise_cons.2 ⟨fun y hy e => ?_, walk_order h n (Int.le_of_lt (h.pos x h1))⟩, ih hu.2 hs.2 (fun y hy => hk y (List.mem_cons_of_mem _ hy)), fun a ha b hb e => ?_⟩
      · obtain ⟨q1, q2⟩ := walkI_below n hy
        rw [← e] at q2
        exact absurd q2 (fun q => Dn.noback h h1 (by omega) q)
      · simp only [List.mem_flatMap, List.mem_cons] at hb
        obtain ⟨z, hz, hb⟩ := hb
        obtain ⟨k1, k2⟩ := hk z (List.mem_cons_of_mem _ hz)
        have hne : x.item ≠ z.item := fun e => hu.1 (List.mem_map.2 ⟨z, hz, e.symm⟩)
        rcases List.mem_cons.1 ha with rfl | ha <;> rcases hb with rfl | hb
        · exact hs.1 _ hz
        · obtain ⟨q1, q2⟩ := walkI_below n hb
          rw [← e, h2, ← k2] at q2
          exact absurd q2 (fun q => Dn.noback h k1 (by omega) q)
        · obtain ⟨q1, q2⟩ := walkI_below n ha
          rw [e, k2, ← h2] at q2
          exact absurd q2 (fun q => Dn.noback h h1 (by omega) q)
        · have d1 := (walkI_below n ha).2
          have d2 := (walkI_below n hb).2
          rw [e] at d1
          rcases d1.comp h d2 with d | d
          · have := d.inv h k1 rfl hne
            rw [k2, ← h2] at this
            exact absurd this (fun q => Dn.noback h h1 (by omega) q)
          · have := d.inv h h1 rfl hne.symm
            rw [h2, ← k2] at this
            exact absurd this (fun q => Dn.noback h k1 (by omega) q)
/-- A parent stands ahead of its children. -/
theorem walk_before (h : Its its r) : ∀ (n : Nat) {p : Int} {s t : List DItem} {x : DItem}, walkI its n p = s ++ x :: t → x.parent = p ∨ ∃ y ∈ s, y.item = x.parent
  | 0, p, s, t, x, e => by simp [walkI] at e
  | n + 1, p, s, t, x, e => by
    simp only [walkI] at e
    have hk : ∀ x ∈ kidsI its p, x.parent = p := fun x hx => (kidsI_mem.1 hx).2
    generalize kidsI its p = l at *
    induction l generalizing s with
    | nil => simp at e
    | cons k l ih =>
      simp only [List.flatMap_cons, List.cons_append] at e
      cases s with
      | nil =>
        simp only [List.nil_append, List.cons.injEq] at e
        rw [← e.1]; exact .inl (hk k List.mem_cons_self)
      | cons a s =>
        simp only [List.cons_append, List.cons.injEq] at e
        obtain ⟨rfl, e⟩ := e
        rcases List.append_eq_append_iff.1 e with ⟨b, e1, e2⟩ | ⟨b, e1, e2⟩
        · -- beyond this block
          rcases ih (s := b) e2 (fun x hx => hk x (List.mem_cons_of_mem _ hx)) with h' | ⟨y, hy, e'⟩
          · exact .inl h'
          · exact .inr ⟨y, by rw [e1]; simp [hy], e'⟩
        · cases b with
          | nil =>
            simp only [List.nil_append] at e2
            rcases ih (s := []) (by simpa using e2.symm) (fun x hx => hk x (List.mem_cons_of_mem _ hx)) with h' | ⟨y, hy, e'⟩
            · exact .inl h'
            · cases hy
          | cons c b =>
            simp only [List.cons_append, List.cons.injEq] at e2
            obtain ⟨rfl, e2⟩ := e2
            rcases walk_before h n e1 with h' | ⟨y, hy, e'⟩
            · exact .inr ⟨k, List.mem_cons_self, h'.symm⟩
            · exact .inr ⟨y, List.mem_cons_of_mem _ hy, e'⟩
/-- What the statement asks of the items. -/
structure RT (R : List DItem) (n : Nat) (r : Int → Nat) : Prop where
  uq : UniqI DItem.item R
  le : n ≤ R.length
  sh : shownF R 0 = n
  par : ∀ i, i < n → (R.getD i default).parent ∈ 0 :: (R.take i).map DItem.item
  ord : ∀ k i, k < i → i < n → (R.getD k default).parent = (R.getD i default).parent → ltP (R.getD k default) (R.getD i default) = true
  rk : ∀ x ∈ R, 0 < x.parent → r x.parent < r x.item
theorem getDI {l : List DItem} {i : Nat} (h : i < l.length) : l.getD i default = l[i] := by simp [List.getD, List.getElem?_eq_getElem h]
theorem shownF_at {R : List DItem} {n : Nat} (hn : n ≤ R.length) (h1 : ∀ i, i < n → (R.getD i default).parent ∈ 0 :: (R.take i).map DItem.item) (h2 : n < R.length → (R.getD n default).parent ∉ 0 :: (R.take n).map DItem.item) : shownF R 0 = n := by
  have : ∀ (d i : Nat), n - i = d → i ≤ n → shownF R i = n := by
    intro d
    induction d with
    | zero =>
      intro i h hi
      have : i = n := by omega
      subst this
      rw [shownF]
      split
      · rw [if_neg (h2 (by omega))]
      · omega
    | succ d ih =>
      intro i h hi
      rw [shownF, if_pos (by omega), if_pos (h1 i (by omega))]
      exact ih (i + 1) (by omega) (by omega)
  exact this n 0 (by omega) (Nat.zero_le _)
theorem rawI_tree {l : List DOp} (hl : ∀ o ∈ l, 0 < o.itm) : ∃ r, RT (rawI l) (walkF l).length r := by
  obtain ⟨r, hr⟩ := itsF_ok hl
  refine ⟨r, ?_⟩
  have hW : ∀ x ∈ walkF l, x ∈ itsF l := fun x hx => (walkI_below _ hx).1
  have hmu : mu (itsF l) r 0 ≤ (itsF l).length + 1 := by unfold mu; rw [if_pos rfl]; exact Nat.le_refl _
  have hS : ∀ x, x ∈ srtN (itsF l) ↔ x ∈ itsF l := fun x => (srtO_perm ltN _).mem_iff
  have hR : ∀ x ∈ rawI l, x ∈ itsF l := fun x hx => by
    unfold rawI at hx
    rcases List.mem_append.1 hx with h | h
    · exact hW x h
    · exact (hS x).1 (List.mem_filter.1 h).1
  have hpar : ∀ i, i < (walkF l).length → ((rawI l).getD i default).parent ∈ 0 :: ((rawI l).take i).map DItem.item := fun i hi => by
    have e0 : (rawI l).getD i default = (walkF l)[i] := by
      have : i < (rawI l).length := by unfold rawI; simp; omega
      rw [getDI this]; simp [rawI, List.getElem_append_left hi]
    have e1 : (rawI l).take i = (walkF l).take i := by unfold rawI; rw [List.take_append_of_le_length (by omega)]
    rw [e0, e1]
    have hsp : walkI (itsF l) ((itsF l).length + 1) 0 = (walkF l).take i ++ (walkF l)[i] :: (walkF l).drop (i + 1) := by
      show walkF l = _
      rw [← List.drop_eq_getElem_cons hi, List.take_append_drop]
    rcases walk_before hr _ hsp with h | ⟨y, hy, e⟩
    · rw [h]; exact List.mem_cons_self
    · exact List.mem_cons_of_mem _ (List.mem_map.2 ⟨y, hy, e⟩)
  have hle : (walkF l).length ≤ (rawI l).length := by unfold rawI; simp
  refine ⟨?_, hle, shownF_at hle hpar (fun hlt hm => ?_), hpar, fun k i hki hi e => ?_, fun x hx h0 => hr.rk x (hR x hx) h0⟩
  · unfold UniqI rawI
    rw [List.map_append, List.nodup_append]
    refine ⟨walkI_nodup hr _ (Int.le_refl _), ?_, fun a ha b hb e => ?_⟩
    · have : UniqI DItem.item (srtN (itsF l)) := by
        have := hr.uq
        unfold UniqI srtN at *
        exact ((srtO_perm ltN _).map _).nodup_iff.2 this
      exact filter_uniq this _
    · obtain ⟨y, hy, rfl⟩ := List.mem_map.1 hb
      have := (List.mem_filter.1 hy).2
      simp only [decide_eq_true_eq] at this
      exact this (e ▸ ha)
  · -- the first that is not shown
    have e0 : ((rawI l).getD (walkF l).length default) ∈ (srtN (itsF l)).filter fun x => decide (x.item ∉ (walkF l).map DItem.item) := by
      rw [getDI hlt]
      have e2 : (rawI l)[(walkF l).length]? = ((srtN (itsF l)).filter fun x => decide (x.item ∉ (walkF l).map DItem.item))[0]? := by
        unfold rawI; rw [List.getElem?_append_right (Nat.le_refl _), Nat.sub_self]
      exact List.mem_of_getElem? (e2.symm.trans (List.getElem?_eq_getElem hlt))
    have e1 : (rawI l).take (walkF l).length = walkF l := by unfold rawI; rw [List.take_append_of_le_length (Nat.le_refl _), List.take_length]
    obtain ⟨q1, q2⟩ := List.mem_filter.1 e0
    simp only [decide_eq_true_eq] at q2
    rw [e1] at hm
    refine q2 ?_
    have hx := (hS _).1 q1
    rcases List.mem_cons.1 hm with h | h
    · exact List.mem_map_of_mem (walk_kid (by omega) hx h)
    · obtain ⟨y, hy, e⟩ := List.mem_map.1 h
      exact List.mem_map_of_mem (walk_closed hr _ (Int.le_refl _) hmu hy hx e.symm)
  · have hk : k < (walkF l).length := by omega
    have e0 : ∀ i, (hi : i < (walkF l).length) → (rawI l).getD i default = (walkF l)[i] := fun i hi => by
      have : i < (rawI l).length := by omega
      rw [getDI this]; simp [rawI, List.getElem_append_left hi]
    rw [e0 k hk, e0 i hi] at e ⊢
    have := walk_order hr ((itsF l).length + 1) (Int.le_refl 0)
    rw [List.pairwise_iff_getElem] at this
    exact this k i hk hi hki e

/-! ### The way up -/
def nxF (l : List DItem) (up : Int) : Int := l.foldl (fun n y => if y.item = up then y.parent else n) 0
theorem nxF_succ {l : List DItem} {k : Nat} (h : k < l.length) (up : Int) : nxF (l.take (k + 1)) up = if (l.getD k default).item = up then (l.getD k default).parent else nxF (l.take k) up := by
  unfold nxF
  rw [take_succD h, List.foldl_append]
  rfl
theorem nxF_none {l : List DItem} {up : Int} (h : ∀ y ∈ l, y.item ≠ up) : nxF l up = 0 := by
  have : ∀ (l : List DItem) (n : Int), (∀ y ∈ l, y.item ≠ up) → l.foldl (fun n y => if y.item = up then y.parent else n) n = n := by
    intro l
    induction l with
    | nil => intro n _; rfl
    | cons a l ih => intro n h; rw [List.foldl_cons, if_neg (h a List.mem_cons_self)]; exact ih n (fun y hy => h y (List.mem_cons_of_mem _ hy))
  exact this l 0 h
theorem nxF_at {l : List DItem} (hu : UniqI DItem.item l) {y : DItem} (hy : y ∈ l) : nxF l y.item = y.parent := by
  have key : ∀ (l : List DItem) (n : Int), UniqI DItem.item l → y ∈ l → l.foldl (fun n z => if z.item = y.item then z.parent else n) n = y.parent := by
    intro l
    induction l with
    | nil => intro n _ h; cases h
    | cons a l ih =>
      intro n hu hy
      have hu' := hu
      simp only [UniqI, List.map_cons, List.nodup_cons] at hu
      rw [List.foldl_cons]
      rcases List.mem_cons.1 hy with e | hy
      · subst e
        rw [if_pos rfl]
        have : ∀ (l : List DItem) (n : Int), (∀ z ∈ l, z.item ≠ y.item) → l.foldl (fun n z => if z.item = y.item then z.parent else n) n = n := by
          intro l
          induction l with
          | nil => intro n _; rfl
          | cons a l ih => intro n h; rw [List.foldl_cons, if_neg (h a List.mem_cons_self)]; exact ih n (fun y hy => h y (List.mem_cons_of_mem _ hy))
        exact this l _ (fun z hz e => hu.1 (List.mem_map.2 ⟨z, hz, e⟩))
      · exact ih _ hu.2 hy
  exact key l 0 hu hy
def dpI (R : List DItem) (r : Int → Nat) (up : Int) : Nat := if 0 < up then (R.filter fun y => decide (r y.item ≤ r up ∧ ∃ z ∈ R, z.item = up)).length + 1 else 0
theorem dpI_next {R : List DItem} {n : Nat} {r : Int → Nat} (h : RT R n r) {up : Int} (hu : 0 < up) : dpI R r (nxF R up) < dpI R r up := by
  by_cases hf : ∃ y ∈ R, y.item = up
  · obtain ⟨y, hy, rfl⟩ := hf
    rw [nxF_at h.uq hy]
    unfold dpI
    rw [if_pos hu]
    split
    · rename_i hp
      have hlt := h.rk y hy hp
      have := filter_lt (l := R) (p := fun z => decide (r z.item ≤ r y.item ∧ ∃ w ∈ R, w.item = y.item)) (q := fun z => decide (r z.item ≤ r y.parent ∧ ∃ w ∈ R, w.item = y.parent))
        (fun z _ hz => by simp only [decide_eq_true_eq] at hz ⊢; exact ⟨by omega, y, hy, rfl⟩) hy (by simp only [decide_eq_true_eq]; exact ⟨Nat.le_refl _, y, hy, rfl⟩) (by simp only [decide_eq_false_iff_not]; omega)
      omega
    · omega
  · rw [nxF_none (fun y hy e => hf ⟨y, hy, e⟩)]
    unfold dpI
    rw [if_pos hu, if_neg (by omega)]
    omega
theorem dpI_first {R : List DItem} {n : Nat} {r : Int → Nat} (h : RT R n r) {x : DItem} (hx : x ∈ R) : dpI R r x.parent ≤ R.length := by
  unfold dpI
  split
  · rename_i hp
    have hlt := h.rk x hx hp
    have := filter_lt (l := R) (p := fun _ => true) (q := fun y => decide (r y.item ≤ r x.parent ∧ ∃ z ∈ R, z.item = x.parent)) (fun _ _ _ => rfl) hx rfl (by simp only [decide_eq_false_iff_not]; omega)
    rw [filter_all] at this
    omega
  · omega
/-- What is above stands ahead. -/
def AbvI (R : List DItem) (n i : Nat) (up : Int) : Prop := 0 < up → i < n → ∃ j, j < i ∧ (R.getD j default).item = up
theorem abv_of {R : List DItem} {n : Nat} {r : Int → Nat} (h : RT R n r) {i j : Nat} (hj : j ≤ i) (hi : i < n) : AbvI R n i (R.getD j default).parent := fun h0 _ => by
  have := h.par j (by omega)
  rcases List.mem_cons.1 this with e | hm
  · omega
  · obtain ⟨y, hy, e⟩ := List.mem_map.1 hm
    obtain ⟨k, hk, rfl⟩ := List.mem_iff_getElem.1 hy
    have hle := h.le
    rw [List.length_take] at hk
    refine ⟨k, by omega, ?_⟩
    rw [getDI (by omega), ← e]
    simp
theorem uniq_idx {R : List DItem} (hu : UniqI DItem.item R) {j k : Nat} (hj : j < R.length) (hk : k < R.length) (e : (R.getD j default).item = (R.getD k default).item) : j = k := by
  rw [getDI hj, getDI hk] at e
  unfold UniqI at hu
  refine (List.getElem_inj (i := j) (j := k) (h₀ := by simpa using hj) (h₁ := by simpa using hk) hu).1 ?_
  simpa using e
theorem abv_next {R : List DItem} {n : Nat} {r : Int → Nat} (h : RT R n r) {i : Nat} {up : Int} (hi : i < R.length) (ha : AbvI R n i up) (h0 : 0 < up) : AbvI R n i (nxF R up) := fun h1 hn => by
  obtain ⟨j, hj, e⟩ := ha h0 hn
  have hm : R.getD j default ∈ R := getDI_mem (by omega)
  rw [← e, nxF_at h.uq hm] at h1 ⊢
  exact abv_of h (Nat.le_of_lt hj) hn h1 hn
theorem rawI_len {l : List DOp} (hl : ∀ o ∈ l, 0 < o.itm) : (rawI l).length ≤ l.length := by
  obtain ⟨r, h⟩ := rawI_tree hl
  have hn : (rawI l).Nodup := (List.pairwise_map.1 h.uq).imp (fun h e => h (congrArg _ e))
  refine Nat.le_trans (nodup_sub _ (itsF l) hn (fun x hx => ?_)) (itsF_len hl)
  unfold rawI at hx
  rcases List.mem_append.1 hx with h | h
  · exact (walkI_below _ h).1
  · exact (srtO_perm ltN _).mem_iff.1 (List.mem_filter.1 h).1
theorem getD_take {l : List DItem} {i m : Nat} (h : m < i) : (l.take i).getD m default = l.getD m default := by
  simp [List.getD, List.getElem?_take, h]
end Go.Ch
end
section
set_option linter.unusedVariables false
set_option linter.unusedSimpArgs false
set_option maxRecDepth 100000
set_option maxHeartbeats 4000000
open Go Go.Proofs Go.Ab
namespace Go.Ch
theorem fc_itemsV (U : List DOp) (l : List DOp) (hU : UOk U) (hu : U.length ≤ 1000) (hl : VU U l) : FC Try.prog 11 [VL 8 dopT l] (app emp []) (.tup [VL 4 ditT (rawI l), VI 0]) (app emp []) := by
  have l1 := hl.len
  have h := fc_items l (by omega)
  rw [hl.ok hU, if_pos rfl] at h
  exact h

theorem fc_isTree (p q : List Int) : FC Try.prog 5 [VL 1 intT p, VL 1 intT q] (app emp []) (VB true) (app emp []) := by
 refine .go Try.f5 ?_
 refine .len 0 (fun hl0 => ?_)
 refine .len 1 (fun hl1 => ?_)
 obtain ⟨U, hUe⟩ : ∃ U, U = U3 p q [] := ⟨_, rfl⟩
 have hU : UOk U := hUe ▸ U3_ok p q []
 have hul : U.length ≤ 1000 := by rw [hUe]; have := U3_len p q []; omega
 have hA : VU U (paintI p 1) := hUe ▸ U3_1 p q []
 have hB : VU U (paintI q 2) := hUe ▸ U3_2 p q []
 have hV : VU U (uni (paintI p 1) (paintI q 2)) := by vu
 have hVl := hV.len
 have hRl := rawI_len (drawE_pos (hV.ok hU))
 obtain ⟨r, hT⟩ := rawI_tree (drawE_pos (hV.ok hU))
 have hle := hT.le
 have hsh := hT.sh
 refine .br [.r [], .r [(0, X (Xc0 fc_draws X0))], .f, .r [(1, X (Xc1 32 (fc_paints p 1) X0)), (3, X (Xc1 48 (fc_paints q 2) X0)), (4, X (Xc1 56 (fc_joinU U (paintI p 1) (paintI q 2) hU hul (by vu) (by vu)) X0))], .r [(1, X (Xc1 112 (fc_itemsV U (uni (paintI p 1) (paintI q 2)) hU hul (by vu)) X0))], .r [(4, Xv 1 (!false) X0), (5, X (Xk' false))]] (false || false) (fun h5 => ?_) (fun h5 => ?_)
 ·
  (try simp only [Bool.or_eq_true, Bool.or_eq_false_iff] at h5)
  exfalso
  simp at h5
 ·
  (try simp only [Bool.or_eq_true, Bool.or_eq_false_iff] at h5)
  refine .loop (α := Nat) [.r [(1, X (Xc0 (fc_shown (rawI (uni (paintI p 1) (paintI q 2)))) X0))], .r [(1, X (Xl ditT (rawI (uni (paintI p 1) (paintI q 2)))))]] 256 (fun i => ([(7, VL 4 ditT (rawI (uni (paintI p 1) (paintI q 2)))), (9, VI (shownF (rawI (uni (paintI p 1) (paintI q 2))) 0 : Int)), (42, VL 4 ditT (rawI (uni (paintI p 1) (paintI q 2)))), (43, VI ((rawI (uni (paintI p 1) (paintI q 2))).length : Int)), (44, VI (i : Int))], [])) (fun i => i ≤ (rawI (uni (paintI p 1) (paintI q 2))).length) (fun i => (rawI (uni (paintI p 1) (paintI q 2))).length - i) (0 : Nat) ?_ ?_
  ·
   exact Nat.zero_le _
  rintro i I9 ih9
  try dsimp only at I9
  refine .br [.r []] (decide ((i : Int) < ((rawI (uni (paintI p 1) (paintI q 2))).length : Int))) (fun h9 => ?_) (fun h9 => ?_)
  ·
   (try simp only [decide_eq_true_eq, decide_eq_false_iff_not, Int.not_lt, Int.not_le] at h9)
   refine .loop (α := Int × Nat) [.r [(1, X (Xi ditT (rawI (uni (paintI p 1) (paintI q 2))) (i : Int)))], .r []] 344 (fun (up, s) => ([(7, VL 4 ditT (rawI (uni (paintI p 1) (paintI q 2)))), (9, VI (shownF (rawI (uni (paintI p 1) (paintI q 2))) 0 : Int)), (10, VI (i : Int)), (11, .ptr 288 0), (12, VI up), (13, VI (s : Int)), (42, VL 4 ditT (rawI (uni (paintI p 1) (paintI q 2)))), (43, VI ((rawI (uni (paintI p 1) (paintI q 2))).length : Int)), (44, VI (i : Int))], [(288, .box [VI ((((rawI (uni (paintI p 1) (paintI q 2))).getD i default)).item), VI ((((rawI (uni (paintI p 1) (paintI q 2))).getD i default)).parent), VS ((((rawI (uni (paintI p 1) (paintI q 2))).getD i default)).place), VL 2 attrT ((((rawI (uni (paintI p 1) (paintI q 2))).getD i default)).attrs)])])) (fun (up, s) => s + dpI (rawI (uni (paintI p 1) (paintI q 2))) r up ≤ (rawI (uni (paintI p 1) (paintI q 2))).length ∧ AbvI (rawI (uni (paintI p 1) (paintI q 2))) ((walkF (uni (paintI p 1) (paintI q 2))).length) i up) (fun (up, s) => dpI (rawI (uni (paintI p 1) (paintI q 2))) r up) ((((rawI (uni (paintI p 1) (paintI q 2))).getD i default)).parent, 0) ?_ ?_
   ·
    exact ⟨by have := dpI_first hT (getDI_mem (l := (rawI (uni (paintI p 1) (paintI q 2)))) (i := i) (by omega)); omega, fun h0 hn => abv_of hT (Nat.le_refl i) hn h0 hn⟩
   rintro ⟨up, s⟩ I12 ih12
   try dsimp only at I12
   refine .br [.r [(5, Xv 1 (decide (up > 0)) (Xl ditT (rawI (uni (paintI p 1) (paintI q 2))))), (6, Xv 2 (decide (up > 0)) X0), (7, X (Xk (decide (up > 0))))]] (decide (up > 0) && decide ((s : Int) ≤ ((rawI (uni (paintI p 1) (paintI q 2))).length : Int))) (fun h12 => ?_) (fun h12 => ?_)
   ·
    (try simp only [decide_eq_true_eq, decide_eq_false_iff_not, Int.not_lt, Int.not_le, gt_iff_lt, Bool.and_eq_true, Bool.and_eq_false_iff, Bool.not_eq_true', Bool.not_eq_false'] at h12)
    refine .loop (α := Int × Nat) [.r [], .r [(1, X (Xl ditT (rawI (uni (paintI p 1) (paintI q 2)))))]] 440 (fun (nx, k) => ([(7, VL 4 ditT (rawI (uni (paintI p 1) (paintI q 2)))), (9, VI (shownF (rawI (uni (paintI p 1) (paintI q 2))) 0 : Int)), (10, VI (i : Int)), (11, .ptr 288 0), (12, VI up), (13, VI (s : Int)), (14, VI nx), (42, VL 4 ditT (rawI (uni (paintI p 1) (paintI q 2)))), (43, VI ((rawI (uni (paintI p 1) (paintI q 2))).length : Int)), (44, VI (i : Int)), (59, VL 4 ditT (rawI (uni (paintI p 1) (paintI q 2)))), (60, VI ((rawI (uni (paintI p 1) (paintI q 2))).length : Int)), (61, VI (k : Int))], [(288, .box [VI ((((rawI (uni (paintI p 1) (paintI q 2))).getD i default)).item), VI ((((rawI (uni (paintI p 1) (paintI q 2))).getD i default)).parent), VS ((((rawI (uni (paintI p 1) (paintI q 2))).getD i default)).place), VL 2 attrT ((((rawI (uni (paintI p 1) (paintI q 2))).getD i default)).attrs)])])) (fun (nx, k) => k ≤ (rawI (uni (paintI p 1) (paintI q 2))).length ∧ nx = nxF ((rawI (uni (paintI p 1) (paintI q 2))).take k) up) (fun (nx, k) => (rawI (uni (paintI p 1) (paintI q 2))).length - k) (0, 0) ?_ ?_
    ·
     exact ⟨Nat.zero_le _, rfl⟩
    rintro ⟨nx, k⟩ I15 ih15
    try dsimp only at I15
    refine .br [.r []] (decide ((k : Int) < ((rawI (uni (paintI p 1) (paintI q 2))).length : Int))) (fun h15 => ?_) (fun h15 => ?_)
    ·
     (try simp only [decide_eq_true_eq, decide_eq_false_iff_not, Int.not_lt, Int.not_le] at h15)
     refine .br [.r [(1, X (Xi ditT (rawI (uni (paintI p 1) (paintI q 2))) (k : Int)))], .r []] (((((rawI (uni (paintI p 1) (paintI q 2))).getD k default)).item) == up) (fun h17 => ?_) (fun h17 => ?_)
     ·
      (try simp only [beq_iff_eq, beq_eq_false_iff_ne, ne_eq] at h17)
      refine .br [.r [], .r [(6, Xv 2 (decide ((i : Int) < (shownF (rawI (uni (paintI p 1) (paintI q 2))) 0 : Int))) X0), (7, X (Xk (decide ((i : Int) < (shownF (rawI (uni (paintI p 1) (paintI q 2))) 0 : Int)))))]] (decide ((i : Int) < (shownF (rawI (uni (paintI p 1) (paintI q 2))) 0 : Int)) && decide ((k : Int) ≥ (i : Int))) (fun h19 => ?_) (fun h19 => ?_)
      ·
       (try simp only [decide_eq_true_eq, decide_eq_false_iff_not, Int.not_lt, Int.not_le, ge_iff_le, Bool.and_eq_true, Bool.and_eq_false_iff, Bool.not_eq_true', Bool.not_eq_false'] at h19)
       exfalso
       obtain ⟨j, hj, e⟩ := I12.2 (by omega) (by omega)
       have := uniq_idx hT.uq (j := j) (k := k) (by omega) (by omega) (e.trans h17.symm)
       omega
      ·
       (try simp only [decide_eq_true_eq, decide_eq_false_iff_not, Int.not_lt, Int.not_le, ge_iff_le, Bool.and_eq_true, Bool.and_eq_false_iff, Bool.not_eq_true', Bool.not_eq_false'] at h19)
       refine .back [.r [(0, X (Xn ((k : Int) + 1)))]] [(288, 288)] (ih15 ((((rawI (uni (paintI p 1) (paintI q 2))).getD k default)).parent, (k + 1)) ?_ ?_)
       ·
        exact ⟨by omega, by rw [nxF_succ (by omega), if_pos h17]⟩
       ·
        ((try dsimp only); omega)
     ·
      (try simp only [beq_iff_eq, beq_eq_false_iff_ne, ne_eq] at h17)
      refine .back [.r [(0, X (Xn ((k : Int) + 1)))]] [(288, 288)] (ih15 (nx, (k + 1)) ?_ ?_)
      ·
       exact ⟨by omega, by rw [nxF_succ (by omega), if_neg h17]; exact I15.2⟩
      ·
       ((try dsimp only); omega)
    ·
     (try simp only [decide_eq_true_eq, decide_eq_false_iff_not, Int.not_lt, Int.not_le] at h15)
     refine .back [.r [], .r [(1, X (Xn ((s : Int) + 1)))]] [(288, 288)] (ih12 (nx, (s + 1)) ?_ ?_)
     ·
      have hk : k = (rawI (uni (paintI p 1) (paintI q 2))).length := by omega
      have e := I15.2
      rw [hk, List.take_length] at e
      have hd := dpI_next hT (up := up) (by omega)
      rw [e]
      exact ⟨by omega, abv_next hT (by omega) I12.2 (by omega)⟩
     ·
      have hk : k = (rawI (uni (paintI p 1) (paintI q 2))).length := by omega
      have e := I15.2
      rw [hk, List.take_length] at e
      (try dsimp only)
      rw [e]
      exact dpI_next hT (by omega)
   ·
    (try simp only [decide_eq_true_eq, decide_eq_false_iff_not, Int.not_lt, Int.not_le, gt_iff_lt, Bool.and_eq_true, Bool.and_eq_false_iff, Bool.not_eq_true', Bool.not_eq_false'] at h12)
    refine .br [.r [(2, X (Xl ditT (rawI (uni (paintI p 1) (paintI q 2)))))]] (decide ((s : Int) > ((rawI (uni (paintI p 1) (paintI q 2))).length : Int))) (fun h24 => ?_) (fun h24 => ?_)
    ·
     (try simp only [decide_eq_true_eq, decide_eq_false_iff_not, Int.not_lt, Int.not_le, gt_iff_lt] at h24)
     exfalso
     omega
    ·
     (try simp only [decide_eq_true_eq, decide_eq_false_iff_not, Int.not_lt, Int.not_le, gt_iff_lt] at h24)
     refine .loop (α := Nat) [.r [(2, X (Xst ditT 4 (rawI (uni (paintI p 1) (paintI q 2))) (i : Int))), (3, X (Xl ditT ((rawI (uni (paintI p 1) (paintI q 2))).take i)))]] 480 (fun m => ([(7, VL 4 ditT (rawI (uni (paintI p 1) (paintI q 2)))), (9, VI (shownF (rawI (uni (paintI p 1) (paintI q 2))) 0 : Int)), (10, VI (i : Int)), (11, .ptr 288 0), (42, VL 4 ditT (rawI (uni (paintI p 1) (paintI q 2)))), (43, VI ((rawI (uni (paintI p 1) (paintI q 2))).length : Int)), (44, VI (i : Int)), (90, VL 4 ditT ((rawI (uni (paintI p 1) (paintI q 2))).take i)), (91, VI (((rawI (uni (paintI p 1) (paintI q 2))).take i).length : Int)), (92, VI (m : Int))], [(288, .box [VI ((((rawI (uni (paintI p 1) (paintI q 2))).getD i default)).item), VI ((((rawI (uni (paintI p 1) (paintI q 2))).getD i default)).parent), VS ((((rawI (uni (paintI p 1) (paintI q 2))).getD i default)).place), VL 2 attrT ((((rawI (uni (paintI p 1) (paintI q 2))).getD i default)).attrs)])])) (fun m => m ≤ i) (fun m => i - m) (0 : Nat) ?_ ?_
     ·
      exact Nat.zero_le _
     rintro m I27 ih27
     try dsimp only at I27
     refine .br [.r []] (decide ((m : Int) < (((rawI (uni (paintI p 1) (paintI q 2))).take i).length : Int))) (fun h27 => ?_) (fun h27 => ?_)
     ·
      (try simp only [decide_eq_true_eq, decide_eq_false_iff_not, Int.not_lt, Int.not_le] at h27)
      refine .br [.r [(1, X (Xi ditT ((rawI (uni (paintI p 1) (paintI q 2))).take i) (m : Int)))], .r [(8, Xv 2 (!((((((rawI (uni (paintI p 1) (paintI q 2))).take i).getD m default)).item) == ((((rawI (uni (paintI p 1) (paintI q 2))).getD i default)).item))) X0), (9, Xv 1 (!((((((rawI (uni (paintI p 1) (paintI q 2))).take i).getD m default)).item) == ((((rawI (uni (paintI p 1) (paintI q 2))).getD i default)).item))) X0), (12, Xv 2 ((!((((((rawI (uni (paintI p 1) (paintI q 2))).take i).getD m default)).item) == ((((rawI (uni (paintI p 1) (paintI q 2))).getD i default)).item))) && (decide ((m : Int) < (shownF (rawI (uni (paintI p 1) (paintI q 2))) 0 : Int)))) X0), (13, Xka (!((((((rawI (uni (paintI p 1) (paintI q 2))).take i).getD m default)).item) == ((((rawI (uni (paintI p 1) (paintI q 2))).getD i default)).item))) (decide ((m : Int) < (shownF (rawI (uni (paintI p 1) (paintI q 2))) 0 : Int)))), (14, Xv 1 (!((((((rawI (uni (paintI p 1) (paintI q 2))).take i).getD m default)).item) == ((((rawI (uni (paintI p 1) (paintI q 2))).getD i default)).item))) X0), (16, Xv 1 ((!((((((rawI (uni (paintI p 1) (paintI q 2))).take i).getD m default)).item) == ((((rawI (uni (paintI p 1) (paintI q 2))).getD i default)).item))) && (decide ((m : Int) < (shownF (rawI (uni (paintI p 1) (paintI q 2))) 0 : Int)) && decide ((i : Int) < (shownF (rawI (uni (paintI p 1) (paintI q 2))) 0 : Int)))) X0), (18, Xv 1 ((!((((((rawI (uni (paintI p 1) (paintI q 2))).take i).getD m default)).item) == ((((rawI (uni (paintI p 1) (paintI q 2))).getD i default)).item))) && (decide ((m : Int) < (shownF (rawI (uni (paintI p 1) (paintI q 2))) 0 : Int)) && decide ((i : Int) < (shownF (rawI (uni (paintI p 1) (paintI q 2))) 0 : Int)))) X0), (19, Xv 2 ((!((((((rawI (uni (paintI p 1) (paintI q 2))).take i).getD m default)).item) == ((((rawI (uni (paintI p 1) (paintI q 2))).getD i default)).item))) && (decide ((m : Int) < (shownF (rawI (uni (paintI p 1) (paintI q 2))) 0 : Int)) && decide ((i : Int) < (shownF (rawI (uni (paintI p 1) (paintI q 2))) 0 : Int)))) X0), (20, Xka (!((((((rawI (uni (paintI p 1) (paintI q 2))).take i).getD m default)).item) == ((((rawI (uni (paintI p 1) (paintI q 2))).getD i default)).item))) (decide ((m : Int) < (shownF (rawI (uni (paintI p 1) (paintI q 2))) 0 : Int)) && decide ((i : Int) < (shownF (rawI (uni (paintI p 1) (paintI q 2))) 0 : Int)))), (21, Xv 1 (!((((((rawI (uni (paintI p 1) (paintI q 2))).take i).getD m default)).item) == ((((rawI (uni (paintI p 1) (paintI q 2))).getD i default)).item))) X0), (23, Xv 1 ((!((((((rawI (uni (paintI p 1) (paintI q 2))).take i).getD m default)).item) == ((((rawI (uni (paintI p 1) (paintI q 2))).getD i default)).item))) && ((decide ((m : Int) < (shownF (rawI (uni (paintI p 1) (paintI q 2))) 0 : Int)) && decide ((i : Int) < (shownF (rawI (uni (paintI p 1) (paintI q 2))) 0 : Int))) && ((((((rawI (uni (paintI p 1) (paintI q 2))).take i).getD m default)).parent) == ((((rawI (uni (paintI p 1) (paintI q 2))).getD i default)).parent)))) X0), (25, Xv 1 ((!((((((rawI (uni (paintI p 1) (paintI q 2))).take i).getD m default)).item) == ((((rawI (uni (paintI p 1) (paintI q 2))).getD i default)).item))) && ((decide ((m : Int) < (shownF (rawI (uni (paintI p 1) (paintI q 2))) 0 : Int)) && decide ((i : Int) < (shownF (rawI (uni (paintI p 1) (paintI q 2))) 0 : Int))) && ((((((rawI (uni (paintI p 1) (paintI q 2))).take i).getD m default)).parent) == ((((rawI (uni (paintI p 1) (paintI q 2))).getD i default)).parent)))) X0), (26, Xv 2 ((!((((((rawI (uni (paintI p 1) (paintI q 2))).take i).getD m default)).item) == ((((rawI (uni (paintI p 1) (paintI q 2))).getD i default)).item))) && ((decide ((m : Int) < (shownF (rawI (uni (paintI p 1) (paintI q 2))) 0 : Int)) && decide ((i : Int) < (shownF (rawI (uni (paintI p 1) (paintI q 2))) 0 : Int))) && ((((((rawI (uni (paintI p 1) (paintI q 2))).take i).getD m default)).parent) == ((((rawI (uni (paintI p 1) (paintI q 2))).getD i default)).parent)))) X0), (27, Xv 1 ((!((((((rawI (uni (paintI p 1) (paintI q 2))).take i).getD m default)).item) == ((((rawI (uni (paintI p 1) (paintI q 2))).getD i default)).item))) && ((decide ((m : Int) < (shownF (rawI (uni (paintI p 1) (paintI q 2))) 0 : Int)) && decide ((i : Int) < (shownF (rawI (uni (paintI p 1) (paintI q 2))) 0 : Int))) && ((((((rawI (uni (paintI p 1) (paintI q 2))).take i).getD m default)).parent) == ((((rawI (uni (paintI p 1) (paintI q 2))).getD i default)).parent)))) X0), (29, Xv 1 (((!((((((rawI (uni (paintI p 1) (paintI q 2))).take i).getD m default)).item) == ((((rawI (uni (paintI p 1) (paintI q 2))).getD i default)).item))) && ((decide ((m : Int) < (shownF (rawI (uni (paintI p 1) (paintI q 2))) 0 : Int)) && decide ((i : Int) < (shownF (rawI (uni (paintI p 1) (paintI q 2))) 0 : Int))) && ((((((rawI (uni (paintI p 1) (paintI q 2))).take i).getD m default)).parent) == ((((rawI (uni (paintI p 1) (paintI q 2))).getD i default)).parent)))) && !(!(slt (((((rawI (uni (paintI p 1) (paintI q 2))).take i).getD m default)).place) ((((rawI (uni (paintI p 1) (paintI q 2))).getD i default)).place) || seq (((((rawI (uni (paintI p 1) (paintI q 2))).take i).getD m default)).place) ((((rawI (uni (paintI p 1) (paintI q 2))).getD i default)).place)))) X0), (31, Xv 1 (((!((((((rawI (uni (paintI p 1) (paintI q 2))).take i).getD m default)).item) == ((((rawI (uni (paintI p 1) (paintI q 2))).getD i default)).item))) && ((decide ((m : Int) < (shownF (rawI (uni (paintI p 1) (paintI q 2))) 0 : Int)) && decide ((i : Int) < (shownF (rawI (uni (paintI p 1) (paintI q 2))) 0 : Int))) && ((((((rawI (uni (paintI p 1) (paintI q 2))).take i).getD m default)).parent) == ((((rawI (uni (paintI p 1) (paintI q 2))).getD i default)).parent)))) && !(!(slt (((((rawI (uni (paintI p 1) (paintI q 2))).take i).getD m default)).place) ((((rawI (uni (paintI p 1) (paintI q 2))).getD i default)).place) || seq (((((rawI (uni (paintI p 1) (paintI q 2))).take i).getD m default)).place) ((((rawI (uni (paintI p 1) (paintI q 2))).getD i default)).place)))) X0), (32, Xv 2 (((!((((((rawI (uni (paintI p 1) (paintI q 2))).take i).getD m default)).item) == ((((rawI (uni (paintI p 1) (paintI q 2))).getD i default)).item))) && ((decide ((m : Int) < (shownF (rawI (uni (paintI p 1) (paintI q 2))) 0 : Int)) && decide ((i : Int) < (shownF (rawI (uni (paintI p 1) (paintI q 2))) 0 : Int))) && ((((((rawI (uni (paintI p 1) (paintI q 2))).take i).getD m default)).parent) == ((((rawI (uni (paintI p 1) (paintI q 2))).getD i default)).parent)))) && !(!(slt (((((rawI (uni (paintI p 1) (paintI q 2))).take i).getD m default)).place) ((((rawI (uni (paintI p 1) (paintI q 2))).getD i default)).place) || seq (((((rawI (uni (paintI p 1) (paintI q 2))).take i).getD m default)).place) ((((rawI (uni (paintI p 1) (paintI q 2))).getD i default)).place)))) X0), (33, Xv 1 (((!((((((rawI (uni (paintI p 1) (paintI q 2))).take i).getD m default)).item) == ((((rawI (uni (paintI p 1) (paintI q 2))).getD i default)).item))) && ((decide ((m : Int) < (shownF (rawI (uni (paintI p 1) (paintI q 2))) 0 : Int)) && decide ((i : Int) < (shownF (rawI (uni (paintI p 1) (paintI q 2))) 0 : Int))) && ((((((rawI (uni (paintI p 1) (paintI q 2))).take i).getD m default)).parent) == ((((rawI (uni (paintI p 1) (paintI q 2))).getD i default)).parent)))) && !(!(slt (((((rawI (uni (paintI p 1) (paintI q 2))).take i).getD m default)).place) ((((rawI (uni (paintI p 1) (paintI q 2))).getD i default)).place) || seq (((((rawI (uni (paintI p 1) (paintI q 2))).take i).getD m default)).place) ((((rawI (uni (paintI p 1) (paintI q 2))).getD i default)).place)))) X0), (35, Xv 1 ((((!((((((rawI (uni (paintI p 1) (paintI q 2))).take i).getD m default)).item) == ((((rawI (uni (paintI p 1) (paintI q 2))).getD i default)).item))) && ((decide ((m : Int) < (shownF (rawI (uni (paintI p 1) (paintI q 2))) 0 : Int)) && decide ((i : Int) < (shownF (rawI (uni (paintI p 1) (paintI q 2))) 0 : Int))) && ((((((rawI (uni (paintI p 1) (paintI q 2))).take i).getD m default)).parent) == ((((rawI (uni (paintI p 1) (paintI q 2))).getD i default)).parent)))) && !(!(slt (((((rawI (uni (paintI p 1) (paintI q 2))).take i).getD m default)).place) ((((rawI (uni (paintI p 1) (paintI q 2))).getD i default)).place) || seq (((((rawI (uni (paintI p 1) (paintI q 2))).take i).getD m default)).place) ((((rawI (uni (paintI p 1) (paintI q 2))).getD i default)).place)))) && (seq (((((rawI (uni (paintI p 1) (paintI q 2))).take i).getD m default)).place) ((((rawI (uni (paintI p 1) (paintI q 2))).getD i default)).place))) X0), (37, Xv 1 ((((!((((((rawI (uni (paintI p 1) (paintI q 2))).take i).getD m default)).item) == ((((rawI (uni (paintI p 1) (paintI q 2))).getD i default)).item))) && ((decide ((m : Int) < (shownF (rawI (uni (paintI p 1) (paintI q 2))) 0 : Int)) && decide ((i : Int) < (shownF (rawI (uni (paintI p 1) (paintI q 2))) 0 : Int))) && ((((((rawI (uni (paintI p 1) (paintI q 2))).take i).getD m default)).parent) == ((((rawI (uni (paintI p 1) (paintI q 2))).getD i default)).parent)))) && !(!(slt (((((rawI (uni (paintI p 1) (paintI q 2))).take i).getD m default)).place) ((((rawI (uni (paintI p 1) (paintI q 2))).getD i default)).place) || seq (((((rawI (uni (paintI p 1) (paintI q 2))).take i).getD m default)).place) ((((rawI (uni (paintI p 1) (paintI q 2))).getD i default)).place)))) && (seq (((((rawI (uni (paintI p 1) (paintI q 2))).take i).getD m default)).place) ((((rawI (uni (paintI p 1) (paintI q 2))).getD i default)).place))) X0), (38, Xv 2 ((((!((((((rawI (uni (paintI p 1) (paintI q 2))).take i).getD m default)).item) == ((((rawI (uni (paintI p 1) (paintI q 2))).getD i default)).item))) && ((decide ((m : Int) < (shownF (rawI (uni (paintI p 1) (paintI q 2))) 0 : Int)) && decide ((i : Int) < (shownF (rawI (uni (paintI p 1) (paintI q 2))) 0 : Int))) && ((((((rawI (uni (paintI p 1) (paintI q 2))).take i).getD m default)).parent) == ((((rawI (uni (paintI p 1) (paintI q 2))).getD i default)).parent)))) && !(!(slt (((((rawI (uni (paintI p 1) (paintI q 2))).take i).getD m default)).place) ((((rawI (uni (paintI p 1) (paintI q 2))).getD i default)).place) || seq (((((rawI (uni (paintI p 1) (paintI q 2))).take i).getD m default)).place) ((((rawI (uni (paintI p 1) (paintI q 2))).getD i default)).place)))) && (seq (((((rawI (uni (paintI p 1) (paintI q 2))).take i).getD m default)).place) ((((rawI (uni (paintI p 1) (paintI q 2))).getD i default)).place))) X0), (39, Xka (((!((((((rawI (uni (paintI p 1) (paintI q 2))).take i).getD m default)).item) == ((((rawI (uni (paintI p 1) (paintI q 2))).getD i default)).item))) && ((decide ((m : Int) < (shownF (rawI (uni (paintI p 1) (paintI q 2))) 0 : Int)) && decide ((i : Int) < (shownF (rawI (uni (paintI p 1) (paintI q 2))) 0 : Int))) && ((((((rawI (uni (paintI p 1) (paintI q 2))).take i).getD m default)).parent) == ((((rawI (uni (paintI p 1) (paintI q 2))).getD i default)).parent)))) && !(!(slt (((((rawI (uni (paintI p 1) (paintI q 2))).take i).getD m default)).place) ((((rawI (uni (paintI p 1) (paintI q 2))).getD i default)).place) || seq (((((rawI (uni (paintI p 1) (paintI q 2))).take i).getD m default)).place) ((((rawI (uni (paintI p 1) (paintI q 2))).getD i default)).place)))) (seq (((((rawI (uni (paintI p 1) (paintI q 2))).take i).getD m default)).place) ((((rawI (uni (paintI p 1) (paintI q 2))).getD i default)).place))), (40, Xko ((!((((((rawI (uni (paintI p 1) (paintI q 2))).take i).getD m default)).item) == ((((rawI (uni (paintI p 1) (paintI q 2))).getD i default)).item))) && ((decide ((m : Int) < (shownF (rawI (uni (paintI p 1) (paintI q 2))) 0 : Int)) && decide ((i : Int) < (shownF (rawI (uni (paintI p 1) (paintI q 2))) 0 : Int))) && ((((((rawI (uni (paintI p 1) (paintI q 2))).take i).getD m default)).parent) == ((((rawI (uni (paintI p 1) (paintI q 2))).getD i default)).parent)))) (!(slt (((((rawI (uni (paintI p 1) (paintI q 2))).take i).getD m default)).place) ((((rawI (uni (paintI p 1) (paintI q 2))).getD i default)).place) || seq (((((rawI (uni (paintI p 1) (paintI q 2))).take i).getD m default)).place) ((((rawI (uni (paintI p 1) (paintI q 2))).getD i default)).place)))), (41, Xka (!((((((rawI (uni (paintI p 1) (paintI q 2))).take i).getD m default)).item) == ((((rawI (uni (paintI p 1) (paintI q 2))).getD i default)).item))) ((decide ((m : Int) < (shownF (rawI (uni (paintI p 1) (paintI q 2))) 0 : Int)) && decide ((i : Int) < (shownF (rawI (uni (paintI p 1) (paintI q 2))) 0 : Int))) && ((((((rawI (uni (paintI p 1) (paintI q 2))).take i).getD m default)).parent) == ((((rawI (uni (paintI p 1) (paintI q 2))).getD i default)).parent)))), (42, X (Xk' ((((((rawI (uni (paintI p 1) (paintI q 2))).take i).getD m default)).item) == ((((rawI (uni (paintI p 1) (paintI q 2))).getD i default)).item))))]] (((((((rawI (uni (paintI p 1) (paintI q 2))).take i).getD m default)).item) == ((((rawI (uni (paintI p 1) (paintI q 2))).getD i default)).item)) || (((decide ((m : Int) < (shownF (rawI (uni (paintI p 1) (paintI q 2))) 0 : Int)) && decide ((i : Int) < (shownF (rawI (uni (paintI p 1) (paintI q 2))) 0 : Int))) && ((((((rawI (uni (paintI p 1) (paintI q 2))).take i).getD m default)).parent) == ((((rawI (uni (paintI p 1) (paintI q 2))).getD i default)).parent))) && (!(slt (((((rawI (uni (paintI p 1) (paintI q 2))).take i).getD m default)).place) ((((rawI (uni (paintI p 1) (paintI q 2))).getD i default)).place) || seq (((((rawI (uni (paintI p 1) (paintI q 2))).take i).getD m default)).place) ((((rawI (uni (paintI p 1) (paintI q 2))).getD i default)).place)) || (seq (((((rawI (uni (paintI p 1) (paintI q 2))).take i).getD m default)).place) ((((rawI (uni (paintI p 1) (paintI q 2))).getD i default)).place) && decide ((((((rawI (uni (paintI p 1) (paintI q 2))).take i).getD m default)).item) > ((((rawI (uni (paintI p 1) (paintI q 2))).getD i default)).item)))))) (fun h29 => ?_) (fun h29 => ?_)
      ·
       (try simp only [decide_eq_true_eq, decide_eq_false_iff_not, Int.not_lt, Int.not_le, gt_iff_lt, Bool.not_eq_true', Bool.not_eq_false', Bool.and_eq_true, Bool.and_eq_false_iff, Bool.or_eq_true, Bool.or_eq_false_iff, beq_iff_eq, beq_eq_false_iff_ne, ne_eq] at h29)
       exfalso
       have hmi : m < i := by rw [List.length_take] at h27; omega
       rw [getD_take hmi] at h29
       rcases h29 with e | ⟨⟨⟨h1, h2⟩, e⟩, h3⟩
       · have := uniq_idx hT.uq (j := m) (k := i) (by omega) (by omega) e
         omega
       · have ho := hT.ord m i hmi (by omega) e
         rw [ltP_iff] at ho
         rcases ho with ho | ⟨ho, hi2⟩ <;> rcases h3 with h3 | ⟨h3, h4⟩
         · rw [h3.1] at ho; cases ho
         · exact slt_ne ho (seq_iff.1 h3)
         · exact seq_no.1 h3.2 ho
         · omega
      ·
       (try simp only [decide_eq_true_eq, decide_eq_false_iff_not, Int.not_lt, Int.not_le, gt_iff_lt, Bool.not_eq_true', Bool.not_eq_false', Bool.and_eq_true, Bool.and_eq_false_iff, Bool.or_eq_true, Bool.or_eq_false_iff, beq_iff_eq, beq_eq_false_iff_ne, ne_eq] at h29)
       refine .back [.r [(0, X (Xn ((m : Int) + 1)))]] [(288, 288)] (ih27 ((m + 1) : Nat) ?_ ?_)
       ·
        (rw [List.length_take] at h27; omega)
       ·
        (rw [List.length_take] at h27; (try dsimp only); omega)
     ·
      (try simp only [decide_eq_true_eq, decide_eq_false_iff_not, Int.not_lt, Int.not_le] at h27)
      refine .back [.r [(0, X (Xn ((i : Int) + 1)))]] [] (ih9 ((i + 1) : Nat) ?_ ?_)
      ·
       omega
      ·
       ((try dsimp only); omega)
  ·
   (try simp only [decide_eq_true_eq, decide_eq_false_iff_not, Int.not_lt, Int.not_le] at h9)
   exact .fin [.r []] []
end Go.Ch
end
section
set_option linter.unusedVariables false
set_option linter.unusedSimpArgs false
namespace Go.Proofs.Ythpcjddcgdlilaa.frame
open Go Go.Proofs
def chs (l : List Nat) : List Char := l.map Char.ofNat
def w1 : List Char := chs [104, 97, 114, 110, 101, 115, 115]
def w2 : List Char := chs [55, 48, 97, 53, 57, 97, 100, 49, 99, 101, 48, 53, 97, 53, 57, 48, 98, 53, 51, 48, 99, 54, 53, 99, 53, 101, 53, 98, 101, 52, 52, 100, 50, 98, 49, 102, 97, 99, 54, 48, 101, 53, 102, 53, 49, 98, 57, 48, 55, 98, 56, 51, 53, 53, 51, 99, 54, 49, 99, 49, 97, 49, 99, 52]
def w3 : List Char := chs [99, 117, 116]
def sp : Char := Char.ofNat 32
theorem ws_sp (r : List Char) : wordsSigns (sp :: r) = [] :: wordsSigns r := rfl
theorem ws_c (c : Char) (r : List Char) (h : c ≠ sp) : wordsSigns (c :: r) = match wordsSigns r with
    | w :: ws => (c :: w) :: ws
    | [] => [[c]] := by
  rw [wordsSigns.eq_def]
  split
  · rename_i e; cases e
  · rename_i e; simp only [List.cons.injEq] at e; exact absurd e.1 h
  · rename_i e; simp only [List.cons.injEq] at e; obtain ⟨rfl, rfl⟩ := e; rfl
theorem ws_app : ∀ (a : List Char), (a.all fun c => c != sp) = true → ∀ r, wordsSigns (a ++ sp :: r) = a :: wordsSigns r
  | [], _, r => ws_sp r
  | c :: a, h, r => by
    simp only [List.all_cons, Bool.and_eq_true, bne_iff_ne] at h
    rw [List.cons_append, ws_c _ _ h.1, ws_app a h.2 r]
theorem tl (l : List Char) : (String.ofList l).toList = l := String.toList_ofList
theorem k1 : ("harness" : String).toList = w1 := tl w1
theorem k2 : ("cut" : String).toList = w3 := tl w3
theorem k3 : ("gc" : String).toList = chs [103, 99] := tl (chs [103, 99])
theorem k4 : ("spec" : String).toList = chs [115, 112, 101, 99] := tl (chs [115, 112, 101, 99])
theorem k5 : ("carried" : String).toList = chs [99, 97, 114, 114, 105, 101, 100] := tl (chs [99, 97, 114, 114, 105, 101, 100])
theorem lifts (r : List (List Char)) : stripLifts liftWords (w3 :: r) = ([], w3 :: r) := by
  unfold liftWords
  simp only [stripLifts]
  have key : ∀ l : List Nat, (w3 == chs l) = false → ∀ (s : String), s = String.ofList (chs l) → (w3 == s.toList) = false := fun l h s e => by rw [e, tl]; exact h
  rw [if_neg (by rw [key [102, 105, 110, 97, 108, 115] (by kernel_rfl) "finals" rfl]; decide)]
  rw [if_neg (by rw [key [114, 101, 102, 108, 101, 99, 116, 114, 111, 119, 115] (by kernel_rfl) "reflectrows" rfl]; decide)]
  rw [if_neg (by rw [key [108, 101, 97, 110, 114, 111, 119, 115] (by kernel_rfl) "leanrows" rfl]; decide)]
  rw [if_neg (by rw [key [111, 110, 101, 98, 117, 105, 108, 100] (by kernel_rfl) "onebuild" rfl]; decide)]
  rw [if_neg (by rw [key [112, 117, 98, 108, 105, 99, 115, 117, 109, 115] (by kernel_rfl) "publicsums" rfl]; decide)]
  rw [if_neg (by rw [key [101, 113, 103, 117, 97, 114, 100] (by kernel_rfl) "eqguard" rfl]; decide)]
  rw [if_neg (by rw [key [111, 119, 110, 117, 110, 115, 97, 102, 101] (by kernel_rfl) "ownunsafe" rfl]; decide)]
  rw [if_neg (by rw [key [108, 105, 98, 98, 101, 115, 105, 100, 101] (by kernel_rfl) "libbeside" rfl]; decide)]
  rw [if_neg (by rw [key [111, 119, 110, 98, 101, 115, 105, 100, 101] (by kernel_rfl) "ownbeside" rfl]; decide)]
  rw [if_neg (by rw [key [114, 101, 102, 108, 98, 101, 115, 105, 100, 101] (by kernel_rfl) "reflbeside" rfl]; decide)]
  rw [if_neg (by rw [key [97, 108, 105, 97, 115, 101, 115] (by kernel_rfl) "aliases" rfl]; decide)]
  rw [if_neg (by rw [key [97, 102, 116, 101, 114, 105, 110, 105, 116] (by kernel_rfl) "afterinit" rfl]; decide)]
  rw [if_neg (by rw [key [99, 114, 99, 112, 108, 97, 105, 110] (by kernel_rfl) "crcplain" rfl]; decide)]
  rw [if_neg (by rw [key [114, 111, 97, 100, 117, 110, 115, 97, 102, 101] (by kernel_rfl) "roadunsafe" rfl]; decide)]
  rw [if_neg (by rw [key [102, 109, 116, 104, 97, 110, 100, 111, 110] (by kernel_rfl) "fmthandon" rfl]; decide)]
theorem words {P : Program} {rest : List Char} (h : P.initOrder.toList = w1 ++ sp :: (w2 ++ sp :: (w3 ++ sp :: rest))) : behindMainWord (wordsSigns P.initOrder.toList) = w3 :: wordsSigns rest := by
  rw [h, ws_app w1 (by kernel_rfl), ws_app w2 (by kernel_rfl), ws_app w3 (by kernel_rfl)]
  unfold behindMainWord
  rw [k1]
  exact if_pos (by kernel_rfl)
theorem may {P : Program} {rest : List Char} (h : P.initOrder.toList = w1 ++ sp :: (w2 ++ sp :: (w3 ++ sp :: rest))) (hl : P.laysLater = false) (hb : P.bearsReflect = false) (hd : P.doorFits [] = true) : P.mayEnter = true := by
  unfold Program.mayEnter
  rw [words h]
  simp only [lifts, k2, k3, k4, k5, hl, hb, hd]
  have h1 : (w3 == chs [103, 99]) = false := by kernel_rfl
  have h2 : (w3 == chs [115, 112, 101, 99]) = false := by kernel_rfl
  have h3 : (w3 == chs [99, 97, 114, 114, 105, 101, 100]) = false := by kernel_rfl
  rw [h1, h2, h3]
  simp
theorem fin {P : Program} {rest : List Char} (h : P.initOrder.toList = w1 ++ sp :: (w2 ++ sp :: (w3 ++ sp :: rest))) : P.liftsFinal = false := by
  unfold Program.liftsFinal Program.headLifts
  rw [words h]
  simp only [lifts, k2, k5]
  have h3 : (w3 == chs [99, 97, 114, 114, 105, 101, 100]) = false := by kernel_rfl
  simp [h3]
theorem mk {P : Program} {rest : List Char} (h : P.initOrder.toList = w1 ++ sp :: (w2 ++ sp :: (w3 ++ sp :: rest))) : P.make = some .cut := by
  unfold Program.make
  rw [words h]
  simp only [k2, k3, k4, k5]
  have h1 : (w3 == chs [103, 99]) = false := by kernel_rfl
  have h2 : (w3 == chs [115, 112, 101, 99]) = false := by kernel_rfl
  rw [h1, h2]
  simp
theorem head : Try.pinned.checked.prog.initOrder = String.ofList (w1 ++ sp :: (w2 ++ sp :: (w3 ++ sp :: chs [97, 116, 32, 99, 104, 97, 110, 99, 101, 114, 121, 47, 99, 104, 97, 110, 99, 101, 114, 121, 107, 101, 101, 112, 49, 46, 82, 101, 112, 108, 105, 99, 97, 65, 110, 121, 79, 114, 100, 101, 114, 32, 99, 104, 97, 110, 99, 101, 114, 121, 47, 99, 104, 97, 110, 99, 101, 114, 121, 107, 101, 101, 112, 49, 46, 82, 101, 112, 108, 105, 99, 97, 66, 101, 116, 119, 101, 101, 110, 73, 110, 115, 101, 114, 116, 115, 32, 99, 104, 97, 110, 99, 101, 114, 121, 47, 99, 104, 97, 110, 99, 101, 114, 121, 107, 101, 101, 112, 49, 46, 82, 101, 112, 108, 105, 99, 97, 73, 115, 84, 114, 101, 101, 32, 99, 104, 97, 110, 99, 101, 114, 121, 47, 99, 104, 97, 110, 99, 101, 114, 121, 107, 101, 101, 112, 49, 46, 82, 101, 112, 108, 105, 99, 97, 84, 111, 119, 97, 114, 100, 115, 66, 97, 99, 107]))) := by kernel_rfl
set_option maxRecDepth 100000 in
theorem headL : Try.pinned.checked.prog.initOrder.toList = w1 ++ sp :: (w2 ++ sp :: (w3 ++ sp :: chs [97, 116, 32, 99, 104, 97, 110, 99, 101, 114, 121, 47, 99, 104, 97, 110, 99, 101, 114, 121, 107, 101, 101, 112, 49, 46, 82, 101, 112, 108, 105, 99, 97, 65, 110, 121, 79, 114, 100, 101, 114, 32, 99, 104, 97, 110, 99, 101, 114, 121, 47, 99, 104, 97, 110, 99, 101, 114, 121, 107, 101, 101, 112, 49, 46, 82, 101, 112, 108, 105, 99, 97, 66, 101, 116, 119, 101, 101, 110, 73, 110, 115, 101, 114, 116, 115, 32, 99, 104, 97, 110, 99, 101, 114, 121, 47, 99, 104, 97, 110, 99, 101, 114, 121, 107, 101, 101, 112, 49, 46, 82, 101, 112, 108, 105, 99, 97, 73, 115, 84, 114, 101, 101, 32, 99, 104, 97, 110, 99, 101, 114, 121, 47, 99, 104, 97, 110, 99, 101, 114, 121, 107, 101, 101, 112, 49, 46, 82, 101, 112, 108, 105, 99, 97, 84, 111, 119, 97, 114, 100, 115, 66, 97, 99, 107])) := by rw [head, tl]
theorem later : Try.pinned.checked.prog.laysLater = false := by kernel_rfl
theorem refl : Try.pinned.checked.prog.bearsReflect = false := by kernel_rfl
theorem door : Try.pinned.checked.prog.doorFits [] = true := by kernel_rfl
theorem mayEnter : Try.pinned.checked.prog.mayEnter = true := may headL later refl door
theorem made : Try.pinned.checked.prog.make = some .cut := mk headL
theorem laid : laidOutB Try.pinned.checked.prog = true := by kernel_rfl
theorem rowed : mapsRowed Try.pinned.checked.prog = true := by kernel_rfl
theorem noStops : Try.pinned.checked.prog.stops = [] := by kernel_rfl
theorem noKnobs : Try.pinned.checked.prog.stopKnobs = [] := by kernel_rfl
theorem heard : Try.pinned.checked.prog.stopsHeard = true := by kernel_rfl
theorem keys : Try.pinned.checked.prog.plainKeys = true := by kernel_rfl
theorem liftsNo : Try.pinned.checked.prog.liftsFinal = false := fin headL
end Go.Proofs.Ythpcjddcgdlilaa.frame
end
