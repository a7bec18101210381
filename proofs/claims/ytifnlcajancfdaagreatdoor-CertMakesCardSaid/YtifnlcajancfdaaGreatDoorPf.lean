/- PROOFS: cert.Make's loops. -/
import Derived.Test.YtifnlcajancfdaaGreatDoorPc
import Derived.Test.YtifnlcajancfdaaGreatDoorPe
set_option linter.unusedVariables false
set_option linter.unusedSimpArgs false
set_option maxRecDepth 100000
set_option maxHeartbeats 4000000
namespace Go.L.Try
open Go Go.L
variable {E : Env} {G : Nat}
def encW (s : ByteArray) : List Value := [.string s]
def encC (c : ByteArray × Int) : List Value := [.string c.1, .int .i64 c.2]
def nmO (l : List Task) (o : List Nat) : List ByteArray := o.map fun i : Nat => (atI l (i : Int)).name
instance : Inhabited (ByteArray × Int) := ⟨(⟨#[]⟩, 0)⟩
theorem make_l0 (hE : Laid E) {h0 H : Heap} {vl v4 vo2 vt : Value} {v2 : Value} {l : List Task} {o : List Nat} {b : Nat} {W : Nat → Prop} (hl : Rd 7 encT H vl l) (hbl : vl ≠ .slice none 0 0 → blk vl ≠ b) (ho : Rd 1 encI H vo2 (o.map Int.ofNat)) (hbo : vo2 ≠ .slice none 0 0 → blk vo2 ≠ b) (hin : ∀ i ∈ o, i < l.length) (hn : o.length ≤ 1024)
    (hp : Pre h0 H) (hb0 : h0.length ≤ b) (hbH : b < H.length) (hb : H[b]? = some (.cells [vt, .slice none 0 0, .slice none 0 0] false)) (hto : oneCell vt = true) (hW : ∀ x, h0.length ≤ x → W x) {Q : Ex → Fr → Heap → Prop} {fr : Fr}
    (g0 : get fr 0 = vl) (g2 : get fr 2 = v2) (g4 : get fr 4 = v4) (g7 : get fr 7 = .pointer (some ⟨b, 0, none⟩)) (g26 : get fr 26 = vo2) (g27 : get fr 27 = .int .i64 o.length) (g28 : get fr 28 = .int .i64 0)
    (hq : ∀ fr' h' vo, Pre h0 h' → H.length ≤ h'.length → (∀ x, x < H.length → x ≠ b → h'[x]? = H[x]?) → h'[b]? = some (.cells [vt, vo, .slice none 0 0] false) → OwnT H.length 1 encW h' vo (nmO l o) → get fr' 0 = vl → get fr' 2 = v2 → get fr' 4 = v4 → get fr' 7 = .pointer (some ⟨b, 0, none⟩) → Q (.exit 0) fr' h') :
    WO W (iterW (code (callW E) iterW 67 c_cert_Make_l0) fr H) Q := by
  refine WO.loop (fun (k : Nat) fr h' => k ≤ o.length ∧ Pre h0 h' ∧ H.length ≤ h'.length ∧ (∀ x, x < H.length → x ≠ b → h'[x]? = H[x]?) ∧ (∃ vo, h'[b]? = some (.cells [vt, vo, .slice none 0 0] false) ∧ OwnT H.length 1 encW h' vo (nmO l (o.take k))) ∧ get fr 0 = vl ∧ get fr 2 = v2 ∧ get fr 4 = v4 ∧ get fr 7 = .pointer (some ⟨b, 0, none⟩) ∧ get fr 26 = vo2 ∧ get fr 27 = .int .i64 o.length ∧ get fr 28 = .int .i64 k) (fun k => o.length - k) ?_ 0 ⟨Nat.zero_le _, hp, Nat.le_refl _, fun _ _ _ => rfl, ⟨_, hb, OwnT.nil⟩, g0, g2, g4, g7, g26, g27, g28⟩
  clear g0 g2 g4 g7 g26 g27 g28
  rintro k fr h' ⟨hk, hp', hlen, hsame, ⟨vo, hb', how⟩, g0, g2, g4, g7, g26, g27, g28⟩
  unfold c_cert_Make_l0
  have hl' : Rd 7 encT h' vl l := hl.keep fun hn => hsame _ (hl.lt' hn) (hbl hn)
  have ho' : Rd 1 encI h' vo2 (o.map Int.ofNat) := ho.keep fun hn => hsame _ (ho.lt' hn) (hbo hn)
  have olen : (o.map Int.ofNat).length = o.length := by simp
  rcases Nat.lt_or_ge k o.length with hlt | hge
  · have hat : atI (o.map Int.ofNat) (k : Int) = (o[k] : Int) := by rw [atI_nat (by simpa using hlt)]; simp
    have hil := hin _ (List.getElem_mem hlt)
    have hnm : nmO l (o.take (k + 1)) = nmO l (o.take k) ++ [(atI l (o[k] : Int)).name] := by
      unfold nmO
      rw [Go.L.take_snoc hlt, List.map_append, atI_nat hlt]; rfl
    have Hnm := Hid.mk hnm
    have hnl : (nmO l (o.take k)).length ≤ 1024 := by unfold nmO; simp; omega
    have hkl : (k : Int) < (o.map Int.ofNat).length := by omega
    have hql : (o[k] : Int) < l.length := by omega
    have hlow : low h'.length (.pointer (some ⟨b, 1, none⟩)) = true := by simp [low]; omega
    generalize o[k] = q at *
    have Ho := Hid.mk how
    have oo := how.rd.one
    have oc := how.rd.cv
    have hWb := hW b hb0
    clear hnm how hq olen
    (repeat' (first | (with_reducible refine A1 (fun _ => ?_) (fun _ => ?_) <;> try (exfalso; omega)) | (with_reducible refine A2 (fun _ => ?_) (fun _ => ?_) <;> try (exfalso; omega)) | (with_reducible refine A3 (fun _ => ?_) (fun _ => ?_) <;> try (exfalso; omega)) | refine A4 (fun _ => ?_) (fun _ => ?_) | refine A5 (fun _ => ?_) (fun _ => ?_) | refine A6 (fun _ => ?_) (fun _ => ?_) | simp -dsimp (disch := omega) only [↓EA, EB, Nat.reduceEqDiff, Nat.reduceAdd, Nat.reduceLeDiff, Nat.reduceMul, ↓reduceIte, reduceCtorEq, newCells, bslV, eq_self, *, ho'.len, ho'.ixs, ho'.ld, ho'.ld0, ho'.lda, ho'.ldx, ho'.ldx0, ho'.ldxa, encI, hat]))
    refine ⟨hlow, ?_⟩
    have hbx : ∀ x, (h' ++ x)[b]? = some (.cells [vt, vo, .slice none 0 0] false) := fun x => by rw [List.getElem?_append_left (by omega)]; exact hb'
    have hl2 := hl'.app [.dead]
    (repeat' (first | (with_reducible refine A1 (fun _ => ?_) (fun _ => ?_) <;> try (exfalso; omega)) | (with_reducible refine A2 (fun _ => ?_) (fun _ => ?_) <;> try (exfalso; omega)) | (with_reducible refine A3 (fun _ => ?_) (fun _ => ?_) <;> try (exfalso; omega)) | refine A4 (fun _ => ?_) (fun _ => ?_) | refine A5 (fun _ => ?_) (fun _ => ?_) | refine A6 (fun _ => ?_) (fun _ => ?_) | simp -dsimp (disch := omega) only [↓EA, EB, Nat.reduceEqDiff, Nat.reduceAdd, Nat.reduceLeDiff, Nat.reduceMul, ↓reduceIte, reduceCtorEq, newCells, bslV, eq_self, *, hbx, hl2.len, hl2.ixs, hl2.ld, hl2.ld0, hl2.lda, hl2.ldx, hl2.ldx0, hl2.ldxa, encT]))
    refine wx_app1 (sz := 1) (bytes := 16) (Ho.out.app _) (hp'.app' _) (by have := hp.le; omega) (by simp; omega) (fun x hx => hW x (by omega)) (atI l (q : Int)).name (by rw [cellsOf_some, geta0]; rfl) rfl (by decide) (by decide) (by omega) ?_
    intro v2 h2 j1 j2 j3 j4 j5
    have hb2 : h2[b]? = some (.cells [vt, vo, .slice none 0 0] false) := by
      rw [j5 b (by simp; omega) (fun hne e => ?_)]
      · exact hbx _
      · have := Ho.out.ge hne; omega
    have hl3 : h2.length = h'.length + 1 + 1 := by rw [j4]; simp
    have hs2 : ∀ x, x < H.length → x ≠ b → h2[x]? = H[x]? := fun x hx hne => by
      rw [j5 x (by simp; omega) (fun hn e => by have := Ho.out.ge hn; omega), List.getElem?_append_left (by omega)]
      exact hsame x hx hne
    have hbv : blk v2 ≠ b := by rw [j3]; simp; omega
    have o2 := j1.rd.one
    have c2 := j1.rd.cv
    have Hp2 := Hid.mk (j2.set hb0 (.cells [vt, v2, .slice none 0 0] false))
    have Hj1 := Hid.mk (show OwnT H.length 1 encW (h2.set b (.cells [vt, v2, .slice none 0 0] false)) v2 (nmO l (o.take k) ++ [(atI l (q : Int)).name]) from j1.keep fun _ => by rw [gets (Ne.symm hbv)])
    have hb2l : b < h2.length := by omega
    have Hs2 := Hid.mk hs2
    clear j1 j2 j3 j4 j5 hs2 hbx hl2 hb'
    (repeat' (first | (with_reducible refine A1 (fun _ => ?_) (fun _ => ?_) <;> try (exfalso; omega)) | (with_reducible refine A2 (fun _ => ?_) (fun _ => ?_) <;> try (exfalso; omega)) | (with_reducible refine A3 (fun _ => ?_) (fun _ => ?_) <;> try (exfalso; omega)) | refine A4 (fun _ => ?_) (fun _ => ?_) | refine A5 (fun _ => ?_) (fun _ => ?_) | refine A6 (fun _ => ?_) (fun _ => ?_) | simp -dsimp (disch := omega) only [↓EA, EB, Nat.reduceEqDiff, Nat.reduceAdd, Nat.reduceLeDiff, Nat.reduceMul, ↓reduceIte, reduceCtorEq, newCells, bslV, eq_self, *]))
    refine Next.mk (k + 1) ⟨by omega, Hp2.out, by rw [List.length_set]; omega, fun x hx hne => by rw [gets (Ne.symm hne)]; exact Hs2.out x hx hne, ⟨v2, by rw [gset hb2l], by rw [Hnm.out]; exact Hj1.out⟩, rfl, rfl, rfl, rfl, rfl, rfl, rfl⟩ (by omega)
  · have e : k = o.length := by omega
    subst e
    rw [List.take_length] at how
    have Hq := Hid.mk hq
    have Ho := Hid.mk how
    clear hq how
    (repeat' (first | (with_reducible refine A1 (fun _ => ?_) (fun _ => ?_) <;> try (exfalso; omega)) | (with_reducible refine A2 (fun _ => ?_) (fun _ => ?_) <;> try (exfalso; omega)) | (with_reducible refine A3 (fun _ => ?_) (fun _ => ?_) <;> try (exfalso; omega)) | refine A4 (fun _ => ?_) (fun _ => ?_) | refine A5 (fun _ => ?_) (fun _ => ?_) | refine A6 (fun _ => ?_) (fun _ => ?_) | simp -dsimp (disch := omega) only [↓EA, EB, Nat.reduceEqDiff, Nat.reduceAdd, Nat.reduceLeDiff, Nat.reduceMul, ↓reduceIte, reduceCtorEq, newCells, bslV, eq_self, *]))
    exact Hq.out _ _ vo hp' hlen hsame hb' Ho.out rfl rfl rfl rfl
def clO (l : List Task) (R : List Int) (n : Nat) : List (ByteArray × Int) := (List.range n).map fun k : Nat => ((atI l (k : Int)).name, atI R (k : Int) - (atI l (k : Int)).J)
theorem clO_succ (l : List Task) (R : List Int) (n : Nat) : clO l R (n + 1) = clO l R n ++ [((atI l (n : Int)).name, atI R (n : Int) - (atI l (n : Int)).J)] := by unfold clO; rw [List.range_succ, List.map_append]; rfl
theorem make_l1 (hE : Laid E) {h0 H : Heap} {vl v4 vt vo v2 : Value} {l : List Task} {R : List Int} {b : Nat} {W : Nat → Prop} (hl : Rd 7 encT H vl l) (hbl : vl ≠ .slice none 0 0 → blk vl ≠ b) (hR : Rd 1 encI H v4 R) (hbr : v4 ≠ .slice none 0 0 → blk v4 ≠ b) (hRl : R.length = l.length) (hn : l.length ≤ 1024)
    (hok : ∀ k : Nat, k < l.length → (0 ≤ atI R (k : Int) ∧ atI R (k : Int) ≤ 4294967296) ∧ 0 ≤ (atI l (k : Int)).J ∧ (atI l (k : Int)).J ≤ 2147483647)
    (hp : Pre h0 H) (hb0 : h0.length ≤ b) (hbH : b < H.length) (hb : H[b]? = some (.cells [vt, vo, .slice none 0 0] false)) (hto : oneCell vt = true) (hoo : oneCell vo = true) (hW : ∀ x, h0.length ≤ x → W x) {Q : Ex → Fr → Heap → Prop} {fr : Fr}
    (g2 : get fr 2 = v2) (g4 : get fr 4 = v4) (g7 : get fr 7 = .pointer (some ⟨b, 0, none⟩)) (g43 : get fr 43 = vl) (g44 : get fr 44 = .int .i64 l.length) (g45 : get fr 45 = .int .i64 0)
    (hq : ∀ fr' h' vc, Pre h0 h' → H.length ≤ h'.length → (∀ x, x < H.length → x ≠ b → h'[x]? = H[x]?) → h'[b]? = some (.cells [vt, vo, vc] false) → OwnT H.length 2 encC h' vc (clO l R l.length) → get fr' 2 = v2 → get fr' 7 = .pointer (some ⟨b, 0, none⟩) → Q (.exit 2) fr' h') :
    WO W (iterW (code (callW E) iterW 67 c_cert_Make_l1) fr H) Q := by
  refine WO.loop (fun (k : Nat) fr h' => k ≤ l.length ∧ Pre h0 h' ∧ H.length ≤ h'.length ∧ (∀ x, x < H.length → x ≠ b → h'[x]? = H[x]?) ∧ (∃ vc, h'[b]? = some (.cells [vt, vo, vc] false) ∧ OwnT H.length 2 encC h' vc (clO l R k)) ∧ get fr 2 = v2 ∧ get fr 4 = v4 ∧ get fr 7 = .pointer (some ⟨b, 0, none⟩) ∧ get fr 43 = vl ∧ get fr 44 = .int .i64 l.length ∧ get fr 45 = .int .i64 k) (fun k => l.length - k) ?_ 0 ⟨Nat.zero_le _, hp, Nat.le_refl _, fun _ _ _ => rfl, ⟨_, hb, OwnT.nil⟩, g2, g4, g7, g43, g44, g45⟩
  clear g2 g4 g7 g43 g44 g45
  rintro k fr h' ⟨hk, hp', hlen, hsame, ⟨vc, hb', how⟩, g2, g4, g7, g43, g44, g45⟩
  unfold c_cert_Make_l1
  have hl' : Rd 7 encT h' vl l := hl.keep fun hn => hsame _ (hl.lt' hn) (hbl hn)
  have hR' : Rd 1 encI h' v4 R := hR.keep fun hn => hsame _ (hR.lt' hn) (hbr hn)
  rcases Nat.lt_or_ge k l.length with hlt | hge
  · obtain ⟨⟨r1, r2⟩, j1, j2⟩ := hok k hlt
    have Hnm := Hid.mk (clO_succ l R k)
    have hnl : (clO l R k).length ≤ 1024 := by unfold clO; simp; omega
    have hkR : (k : Int) < R.length := by omega
    have Ho := Hid.mk how
    have oo := how.rd.one
    have oc := how.rd.cv
    have hWb := hW b hb0
    clear how hq hRl
    (repeat' (first | (with_reducible refine A1 (fun _ => ?_) (fun _ => ?_) <;> try (exfalso; omega)) | (with_reducible refine A2 (fun _ => ?_) (fun _ => ?_) <;> try (exfalso; omega)) | (with_reducible refine A3 (fun _ => ?_) (fun _ => ?_) <;> try (exfalso; omega)) | refine A4 (fun _ => ?_) (fun _ => ?_) | refine A5 (fun _ => ?_) (fun _ => ?_) | refine A6 (fun _ => ?_) (fun _ => ?_) | simp -dsimp (disch := omega) only [↓EA, EB, Nat.reduceEqDiff, Nat.reduceAdd, Nat.reduceLeDiff, Nat.reduceMul, ↓reduceIte, reduceCtorEq, newCells, bslV, eq_self, *, hl'.len, hl'.ixs, hl'.ld, hl'.ld0, hl'.lda, hl'.ldx, hl'.ldx0, hl'.ldxa, encT]))
    refine ⟨by simp [low]; omega, ?_⟩
    have K7 : ∀ x, (h' ++ [LObj.cells [.string (atI l (k : Int)).name, .int .i64 (atI l (k : Int)).C, .int .i64 (atI l (k : Int)).T, .int .i64 (atI l (k : Int)).D, .int .i64 (atI l (k : Int)).J, .int .i64 (atI l (k : Int)).Q, .int .i64 (atI l (k : Int)).P] false] ++ x)[b]? = some (.cells [vt, vo, vc] false) := fun x => by rw [List.append_assoc, List.getElem?_append_left (by omega)]; exact hb'
    have K8 : ∀ x, (h' ++ [LObj.cells [.string (atI l (k : Int)).name, .int .i64 (atI l (k : Int)).C, .int .i64 (atI l (k : Int)).T, .int .i64 (atI l (k : Int)).D, .int .i64 (atI l (k : Int)).J, .int .i64 (atI l (k : Int)).Q, .int .i64 (atI l (k : Int)).P] false] ++ x)[h'.length]? = some (.cells [.string (atI l (k : Int)).name, .int .i64 (atI l (k : Int)).C, .int .i64 (atI l (k : Int)).T, .int .i64 (atI l (k : Int)).D, .int .i64 (atI l (k : Int)).J, .int .i64 (atI l (k : Int)).Q, .int .i64 (atI l (k : Int)).P] false) := fun x => by rw [List.append_assoc, geta0]; rfl
    have K9 : Pre h' (h' ++ [LObj.cells [.string (atI l (k : Int)).name, .int .i64 (atI l (k : Int)).C, .int .i64 (atI l (k : Int)).T, .int .i64 (atI l (k : Int)).D, .int .i64 (atI l (k : Int)).J, .int .i64 (atI l (k : Int)).Q, .int .i64 (atI l (k : Int)).P] false]) := Pre.app h' _
    have K10 : (h' ++ [LObj.cells [.string (atI l (k : Int)).name, .int .i64 (atI l (k : Int)).C, .int .i64 (atI l (k : Int)).T, .int .i64 (atI l (k : Int)).D, .int .i64 (atI l (k : Int)).J, .int .i64 (atI l (k : Int)).Q, .int .i64 (atI l (k : Int)).P] false]).length = h'.length + 1 := by simp
    have hRd := (hR'.pre K9).app [.dead]
    generalize h' ++ [LObj.cells [.string (atI l (k : Int)).name, .int .i64 (atI l (k : Int)).C, .int .i64 (atI l (k : Int)).T, .int .i64 (atI l (k : Int)).D, .int .i64 (atI l (k : Int)).J, .int .i64 (atI l (k : Int)).Q, .int .i64 (atI l (k : Int)).P] false] = K at *
    have K11 : h'.length + 1 ≤ K.length := by omega
    have K12 : K.length ≤ h'.length + 1 := by omega
    clear K10
    (repeat' (first | (with_reducible refine A1 (fun _ => ?_) (fun _ => ?_) <;> try (exfalso; omega)) | (with_reducible refine A2 (fun _ => ?_) (fun _ => ?_) <;> try (exfalso; omega)) | (with_reducible refine A3 (fun _ => ?_) (fun _ => ?_) <;> try (exfalso; omega)) | refine A4 (fun _ => ?_) (fun _ => ?_) | refine A5 (fun _ => ?_) (fun _ => ?_) | refine A6 (fun _ => ?_) (fun _ => ?_) | simp -dsimp (disch := omega) only [↓EA, EB, Nat.reduceEqDiff, Nat.reduceAdd, Nat.reduceLeDiff, Nat.reduceMul, ↓reduceIte, reduceCtorEq, newCells, bslV, eq_self, *, K7, K8, hRd.len, hRd.ixs, hRd.ld, hRd.ld0, hRd.lda, hRd.ldx, hRd.ldx0, hRd.ldxa, encI]))
    refine wx_app1 (sz := 2) (bytes := 24) ((Ho.out.pre K9).app _) ((hp'.trans K9).app' _) (by have := hp.le; omega) (by simp; omega) (fun x hx => hW x (by omega)) ((atI l (k : Int)).name, atI R (k : Int) - (atI l (k : Int)).J) (by rw [cellsOf_some, geta0]; rfl) rfl (by decide) (by decide) (by omega) ?_
    intro w2 h2 j1 j2 j3 j4 j5
    have hbk2 : ∀ x, x < H.length → h2[x]? = h'[x]? := fun x hx => by
      rw [j5 x (by simp; omega) (fun hn e => by have := Ho.out.ge hn; omega), List.getElem?_append_left (by omega)]
      have hx2 : x < h'.length := by omega
      rw [List.getElem?_eq_getElem hx2]
      exact K9 _ _ (List.getElem?_eq_getElem hx2)
    have hb2 : h2[b]? = some (.cells [vt, vo, vc] false) := by rw [hbk2 b hbH]; exact hb'
    have hl3 : h2.length = K.length + 1 + 1 := by rw [j4]; simp
    have hs2 : ∀ x, x < H.length → x ≠ b → h2[x]? = H[x]? := fun x hx hne => by rw [hbk2 x hx]; exact hsame x hx hne
    have hbv : blk w2 ≠ b := by rw [j3]; simp; omega
    have o2 := j1.rd.one
    have c2 := j1.rd.cv
    have Hp2 := Hid.mk (j2.set hb0 (.cells [vt, vo, w2] false))
    have Hj1 := Hid.mk (show OwnT H.length 2 encC (h2.set b (.cells [vt, vo, w2] false)) w2 (clO l R k ++ [((atI l (k : Int)).name, atI R (k : Int) - (atI l (k : Int)).J)]) from j1.keep fun _ => by rw [gets (Ne.symm hbv)])
    have hb2l : b < h2.length := by omega
    have Hs2 := Hid.mk hs2
    clear j1 j2 j3 j4 j5 hs2 hbk2 hRd hb' K7 K8 K9
    (repeat' (first | (with_reducible refine A1 (fun _ => ?_) (fun _ => ?_) <;> try (exfalso; omega)) | (with_reducible refine A2 (fun _ => ?_) (fun _ => ?_) <;> try (exfalso; omega)) | (with_reducible refine A3 (fun _ => ?_) (fun _ => ?_) <;> try (exfalso; omega)) | refine A4 (fun _ => ?_) (fun _ => ?_) | refine A5 (fun _ => ?_) (fun _ => ?_) | refine A6 (fun _ => ?_) (fun _ => ?_) | simp -dsimp (disch := omega) only [↓EA, EB, Nat.reduceEqDiff, Nat.reduceAdd, Nat.reduceLeDiff, Nat.reduceMul, ↓reduceIte, reduceCtorEq, newCells, bslV, eq_self, *]))
    refine Next.mk (k + 1) ⟨by omega, Hp2.out, by rw [List.length_set]; omega, fun x hx hne => by rw [gets (Ne.symm hne)]; exact Hs2.out x hx hne, ⟨w2, by rw [gset hb2l], by rw [Hnm.out]; exact Hj1.out⟩, rfl, rfl, rfl, rfl, rfl, rfl⟩ (by omega)
  · have e : k = l.length := by omega
    subst e
    have Hq := Hid.mk hq
    have Ho := Hid.mk how
    clear hq how hRl
    (repeat' (first | (with_reducible refine A1 (fun _ => ?_) (fun _ => ?_) <;> try (exfalso; omega)) | (with_reducible refine A2 (fun _ => ?_) (fun _ => ?_) <;> try (exfalso; omega)) | (with_reducible refine A3 (fun _ => ?_) (fun _ => ?_) <;> try (exfalso; omega)) | refine A4 (fun _ => ?_) (fun _ => ?_) | refine A5 (fun _ => ?_) (fun _ => ?_) | refine A6 (fun _ => ?_) (fun _ => ?_) | simp -dsimp (disch := omega) only [↓EA, EB, Nat.reduceEqDiff, Nat.reduceAdd, Nat.reduceLeDiff, Nat.reduceMul, ↓reduceIte, reduceCtorEq, newCells, bslV, eq_self, *]))
    exact Hq.out _ _ vc hp' hlen hsame hb' Ho.out rfl rfl
end Go.L.Try
set_option maxHeartbeats 2000000
namespace Go.L.Try
open Go Go.L
variable {E : Env} {G : Nat}
theorem three_R : allR threeL = [3, 7, 7] := by decide +kernel
theorem three_M : allM threeL = [] := by decide +kernel
theorem three_E : allE threeL = 0 := by decide +kernel
theorem three_name : ∀ t ∈ threeL, t.name.size < 1152921504606846976 := by decide +kernel
theorem setP_names {l : List Spec} {most turn : Int} (hm : 1 ≤ most) (hm2 : most ≤ 26) : ∀ t ∈ setP l most turn, t.name.size < 1152921504606846976 := fun t ht => by have := (setP_small hm hm2 ht).name; omega
end Go.L.Try
namespace Go.L.Try
open Go Go.L
variable {E : Env} {G : Nat}
theorem leastN_none {l : List Task} {i : Int} : ∀ {n : Nat} {w : Int}, leastN l i n w = none → ∀ v, w ≤ v → v < w + n → v < needP l i v
  | 0, w, _, v, h1, h2 => by omega
  | n + 1, w, h, v, h1, h2 => by
    unfold leastN at h
    split at h
    · cases h
    · rename_i hn
      by_cases e : v = w
      · subst e; omega
      · exact leastN_none h v (by omega) (by omega)
theorem leastN_some {l : List Task} {i z : Int} : ∀ {n : Nat} {w : Int}, leastN l i n w = some z → (w ≤ z ∧ z < w + n) ∧ needP l i z ≤ z ∧ ∀ v, w ≤ v → v < z → v < needP l i v
  | 0, w, h => by cases h
  | n + 1, w, h => by
    unfold leastN at h
    split at h
    · rename_i hn
      cases h
      exact ⟨by omega, hn, fun v h1 h2 => by omega⟩
    · rename_i hn
      obtain ⟨h1, h2, h3⟩ := leastN_some h
      refine ⟨by omega, h2, fun v a b => ?_⟩
      by_cases e : v = w
      · subst e; omega
      · exact h3 v (by omega) b
theorem leastP_none {l : List Task} {i : Int} (h : leastP l i = none) : ∀ v, 1 ≤ v → v ≤ mostP l i → v < needP l i v := fun v h1 h2 => leastN_none h v h1 (by omega)
theorem leastP_some {l : List Task} {i z : Int} (hb : isP l i = true) (h : leastP l i = some z) : (1 ≤ z ∧ z ≤ mostP l i) ∧ needP l i z = z ∧ ∀ v, 1 ≤ v → v < z → v < needP l i v := by
  obtain ⟨h1, h2, h3⟩ := leastN_some h
  have hm := mostP_in hb
  refine ⟨by omega, ?_, h3⟩
  have hu : u64in z := by unfold u64in; omega
  obtain ⟨n1, n2⟩ := needP_in hb hu
  rcases Int.lt_or_le (needP l i z) z with hlt | hge
  · have h4 := h3 _ n2 hlt
    have h5 := needP_mono hb n1 (show needP l i z ≤ z by omega)
    omega
  · omega
theorem setP_isP {l : List Spec} {most turn : Int} (hm : 1 ≤ most) (hm2 : most ≤ 26) {k : Int} (h0 : 0 ≤ k) (h1 : k < (setP l most turn).length) : isP (setP l most turn) k = true := by
  have hv := setP_valid l (most := most) turn hm hm2
  unfold validP at hv
  unfold isP
  exact decide_eq_true ⟨hv, h0, h1⟩
end Go.L.Try
set_option maxHeartbeats 1000000
namespace Go.L.Try
open Go Go.L
theorem atI_map_in {α β : Type} [Inhabited α] [Inhabited β] (f : α → β) {l : List α} {i : Int} (h0 : 0 ≤ i) (h1 : i < l.length) : atI (l.map f) i = f (atI l i) := by
  obtain ⟨n, rfl⟩ := Int.eq_ofNat_of_zero_le h0
  have hn : n < l.length := by omega
  rw [atI_nat hn, atI_nat (by simpa using hn), List.getElem_map]
def hN (l : List Task) (i w : Int) : Nat → Int
  | 0 => 0
  | k + 1 => if (atI l (k : Int)).P < (atI l i).P then hN l i w k + ((w + (atI l (k : Int)).J + (atI l (k : Int)).T - 1) / (atI l (k : Int)).T) * (atI l (k : Int)).C else hN l i w k
structure Mid (t : Task) : Prop where
  C : 1 ≤ t.C ∧ t.C ≤ 134217728
  T : 1 ≤ t.T ∧ t.T ≤ 1073741824
  J : 0 ≤ t.J ∧ t.J ≤ 536870912
theorem term_in {t : Task} (m : Mid t) {w : Int} (hw : 0 ≤ w ∧ w ≤ 1073741824) : oftenP t w = (w + t.J + t.T - 1) / t.T ∧ 0 ≤ ((w + t.J + t.T - 1) / t.T) * t.C ∧ ((w + t.J + t.T - 1) / t.T) * t.C ≤ 576460752303423488 := by
  obtain ⟨hC, hT, hJ⟩ := m
  have e : oftenP t w = (w + t.J + t.T - 1) / t.T := by
    unfold oftenP sat
    rw [if_pos (by omega)]
  have h1 : 0 ≤ (w + t.J + t.T - 1) / t.T := Int.ediv_nonneg (by omega) (by omega)
  have h2 : (w + t.J + t.T - 1) / t.T ≤ 2684354560 := Int.le_trans (Int.ediv_le_self _ (by omega)) (by omega)
  refine ⟨e, Int.mul_nonneg h1 (by omega), ?_⟩
  exact Int.le_trans (Int.mul_le_mul h2 hC.2 (by omega) (by omega)) (by decide)
theorem nosat {l : List Task} (hl : ∀ t ∈ l, Mid t) (hn : l.length ≤ 6) {i w : Int} (hw : 0 ≤ w ∧ w ≤ 1073741824) : ∀ n : Nat, n ≤ l.length → higherN l i w n = hN l i w n ∧ 0 ≤ hN l i w n ∧ hN l i w n ≤ n * 576460752303423488
  | 0, _ => by simp [higherN, hN]
  | n + 1, h => by
    obtain ⟨e, h1, h2⟩ := nosat hl hn (i := i) hw n (by omega)
    obtain ⟨e3, h4, h5⟩ := term_in (hl _ (atI_mem (l := l) (i := (n : Int)) (by omega) (by omega))) hw
    unfold higherN hN
    split
    · rw [e, e3]
      generalize ((w + (atI l (n : Int)).J + (atI l (n : Int)).T - 1) / (atI l (n : Int)).T) * (atI l (n : Int)).C = x at *
      have e5 : sat x = x := by unfold sat; rw [if_pos (by omega)]
      rw [e5]
      have e6 : sat (hN l i w n + x) = hN l i w n + x := by unfold sat; rw [if_pos (by omega)]
      rw [e6]
      exact ⟨rfl, by omega, by omega⟩
    · exact ⟨e, h1, by omega⟩
theorem block_one {l : List Task} (hq : ∀ t ∈ l, t.Q = 1) {i : Int} : ∀ n : Nat, n ≤ l.length → blockN l i n = 0
  | 0, _ => rfl
  | n + 1, h => by
    have h1 := hq _ (atI_mem (l := l) (i := (n : Int)) (by omega) (by omega))
    unfold blockN
    rw [block_one hq n (by omega), h1]
    split <;> rfl
theorem need_plain {l : List Task} {i : Int} (hb : isP l i = true) (hl : ∀ t ∈ l, Mid t) (hq : ∀ t ∈ l, t.Q = 1) (hn : l.length ≤ 6) {w : Int} (hw : 1 ≤ w ∧ w ≤ 1073741824) : needP l i w = (atI l i).C + hN l i w l.length := by
  obtain ⟨hi, _, _⟩ := isP_ok hb
  obtain ⟨e, h1, h2⟩ := nosat hl hn (i := i) (w := w) (by omega) l.length (Nat.le_refl _)
  have hC := (hl _ (atI_mem hi.1 hi.2)).C
  have eb : blockP l i = 0 := by unfold blockP; rw [if_pos hb]; exact block_one hq _ (Nat.le_refl _)
  have eh : higherP l i w = hN l i w l.length := by unfold higherP; rw [if_pos ⟨hb, by omega⟩]; exact e
  rw [needP_eq hb, eb, eh]
  have e2 : sat ((atI l i).C + 0) = (atI l i).C := by unfold sat; rw [if_pos (by omega)]; omega
  rw [e2]
  unfold sat
  rw [if_pos (by omega)]
def sc (k : Int) (t : Task) : Task := ⟨t.name, t.C * k, t.T * k, t.D * k, t.J * k, 1, t.P⟩
theorem ceil_mul {a T k : Int} (hT : 0 < T) (hk : 0 < k) : (a * k + T * k - 1) / (T * k) = (a + T - 1) / T := by
  have h1 := Int.emod_add_mul_ediv (a + T - 1) T
  have h2 := Int.emod_nonneg (a + T - 1) (show T ≠ 0 by omega)
  have h3 := Int.emod_lt_of_pos (a + T - 1) hT
  generalize (a + T - 1) / T = q at *
  generalize (a + T - 1) % T = r at *
  have e : a * k + T * k - 1 = (r * k + k - 1) + (T * k) * q := by
    have : (a + T - 1) * k = (r + T * q) * k := by rw [h1]
    rw [Int.sub_mul, Int.add_mul, Int.add_mul] at this
    have e2 : T * q * k = T * k * q := by rw [Int.mul_assoc, Int.mul_comm q k, ← Int.mul_assoc]
    rw [e2] at this
    omega
  have hTk : 0 < T * k := Int.mul_pos hT hk
  rw [e, Int.add_mul_ediv_left _ _ (by omega), Int.ediv_eq_zero_of_lt]
  · omega
  · have := Int.mul_nonneg h2 (show 0 ≤ k by omega); omega
  · have h5 : (r + 1) * k ≤ T * k := Int.mul_le_mul_of_nonneg_right (by omega) (by omega)
    rw [Int.add_mul] at h5; omega
theorem hN_scale {l : List Task} (hl : ∀ t ∈ l, Mid t) {k : Int} (hk : 0 < k) {i : Int} (hi : 0 ≤ i ∧ i < l.length) (w : Int) : ∀ n : Nat, n ≤ l.length → hN (l.map (sc k)) i (w * k) n = hN l i w n * k
  | 0, _ => by simp [hN]
  | n + 1, h => by
    have ih := hN_scale hl hk hi w n (by omega)
    have hm := hl _ (atI_mem (l := l) (i := (n : Int)) (by omega) (by omega))
    unfold hN
    rw [atI_map_in _ (by omega) (by omega : (n : Int) < l.length), atI_map_in _ hi.1 hi.2, ih]
    show (if (atI l (n : Int)).P < (atI l i).P then _ else _) = _
    split
    · have e := ceil_mul (a := w + (atI l (n : Int)).J) hm.T.1 hk
      rw [Int.add_mul] at e
      show hN l i w n * k + (w * k + (atI l (n : Int)).J * k + (atI l (n : Int)).T * k - 1) / ((atI l (n : Int)).T * k) * ((atI l (n : Int)).C * k) = _
      rw [e, Int.add_mul, Int.mul_assoc]
    · rfl
theorem hN_multiple {l : List Task} {k : Int} {i : Int} (hi : 0 ≤ i ∧ i < l.length) (w : Int) : ∀ n : Nat, n ≤ l.length → ∃ m, hN (l.map (sc k)) i w n = m * k
  | 0, _ => ⟨0, by simp [hN]⟩
  | n + 1, h => by
    obtain ⟨m, e⟩ := hN_multiple (k := k) hi w n (by omega)
    unfold hN
    rw [atI_map_in _ (by omega) (by omega : (n : Int) < l.length), e]
    split
    · refine ⟨m + (w + (sc k (atI l (n : Int))).J + (sc k (atI l (n : Int))).T - 1) / (sc k (atI l (n : Int))).T * (atI l (n : Int)).C, ?_⟩
      rw [Int.add_mul, Int.mul_assoc]; rfl
    · exact ⟨m, rfl⟩
structure Sml (t : Task) : Prop where
  ok : okTask t
  C : 1 ≤ t.C ∧ t.C ≤ 4
  D : t.C ≤ t.D ∧ t.D ≤ 14
  J : 0 ≤ t.J ∧ t.C + t.J ≤ t.D
  T : t.D ≤ t.T ∧ t.T ≤ 20
  Q : t.Q = 1
theorem mul_in {x k a b : Int} (hk : 1 ≤ k ∧ k ≤ 33554432) (ha : 0 ≤ a) (hx : a ≤ x ∧ x ≤ b) : a ≤ x * k ∧ x * k ≤ b * 33554432 := by
  have h1 : a * 1 ≤ x * k := Int.mul_le_mul hx.1 hk.1 (by decide) (by omega)
  have h2 : x * k ≤ b * 33554432 := Int.mul_le_mul hx.2 hk.2 (by omega) (by omega)
  rw [Int.mul_one] at h1
  exact ⟨h1, h2⟩
theorem sc_ok {t : Task} (s : Sml t) {k : Int} (hk : 1 ≤ k ∧ k ≤ 33554432) : okTask (sc k t) ∧ Mid (sc k t) := by
  obtain ⟨⟨h1, h2⟩, hC, hD, hJ, hT, hQ⟩ := s
  have c := mul_in hk (by decide) hC
  have d := mul_in (x := t.D) (a := 1) (b := 14) hk (by decide) (by omega)
  have j := mul_in (x := t.J) (a := 0) (b := 13) hk (by decide) (by omega)
  have t' := mul_in (x := t.T) (a := 1) (b := 20) hk (by decide) (by omega)
  simp only [rangesB] at h1
  have e1 : (t.C + t.J) * k ≤ t.D * k := Int.mul_le_mul_of_nonneg_right hJ.2 (by omega)
  have e2 : t.D * k ≤ t.T * k := Int.mul_le_mul_of_nonneg_right hT.1 (by omega)
  rw [Int.add_mul] at e1
  refine ⟨⟨⟨h1.1, h1.2.1, ?_, ?_, ?_, ?_, ?_, h1.2.2.2.2.2.2.2⟩, ?_⟩, ⟨?_, ?_, ?_⟩⟩
  all_goals simp only [sc, fitsB]
  all_goals omega
theorem sc_valid {l : List Task} (hv : validP l) (hs : ∀ t ∈ l, Sml t) {k : Int} (hk : 1 ≤ k ∧ k ≤ 33554432) : validP (l.map (sc k)) := by
  obtain ⟨h1, h2, h3⟩ := valid_iff.1 hv
  refine valid_iff.2 ⟨by simpa using h1, fun t ht => ?_, fun j m hj hm => ?_⟩
  · obtain ⟨u, hu, rfl⟩ := List.mem_map.1 ht
    exact (sc_ok (hs u hu) hk).1
  · rw [List.length_map] at hm
    rw [atI_map_in _ (by omega) (by omega : (j : Int) < l.length), atI_map_in _ (by omega) (by omega : (m : Int) < l.length)]
    exact h3 j m hj hm
theorem valid_isP {l : List Task} (hv : validP l) {i : Int} (h0 : 0 ≤ i) (h1 : i < l.length) : isP l i = true := by
  unfold validP at hv; unfold isP; exact decide_eq_true ⟨hv, h0, h1⟩
theorem least_scale {l : List Task} (hv : validP l) (hs : ∀ t ∈ l, Sml t) (hn : l.length ≤ 6) {k : Int} (hk : 1 ≤ k ∧ k ≤ 33554432) {i : Int} (hi : 0 ≤ i ∧ i < l.length) :
    leastP (l.map (sc k)) i = (leastP l i).map (· * k) := by
  have hb := valid_isP hv hi.1 hi.2
  have hb2 := valid_isP (sc_valid hv hs hk) hi.1 (by simpa using hi.2)
  have ei : atI (l.map (sc k)) i = sc k (atI l i) := atI_map_in _ hi.1 hi.2
  have hm1 := mostP_in hb
  have hst := hs _ (atI_mem hi.1 hi.2)
  have em : mostP (l.map (sc k)) i = mostP l i * k := by
    unfold mostP; rw [ei, Int.sub_mul]; rfl
  have hmost : mostP l i ≤ 14 := by unfold mostP; have := hst.D; have := hst.J; omega
  have hm2 := mul_in (x := mostP l i) (a := 1) (b := 14) hk (by decide) (by omega)
  have hmid : ∀ t ∈ l, Mid t := fun t ht => by
    have := hs t ht
    obtain ⟨_, hC, hD, hJ, hT, _⟩ := this
    exact ⟨by omega, by omega, by omega⟩
  have hmid2 : ∀ t ∈ l.map (sc k), Mid t := fun t ht => by
    obtain ⟨u, hu, rfl⟩ := List.mem_map.1 ht
    exact (sc_ok (hs u hu) hk).2
  have hq1 : ∀ t ∈ l, t.Q = 1 := fun t ht => (hs t ht).Q
  have hq2 : ∀ t ∈ l.map (sc k), t.Q = 1 := fun t ht => by obtain ⟨u, hu, rfl⟩ := List.mem_map.1 ht; rfl
  have hl2 : (l.map (sc k)).length ≤ 6 := by simpa using hn
  have need1 := fun w hw => need_plain hb hmid hq1 hn (w := w) hw
  have need2 := fun w hw => need_plain hb2 hmid2 hq2 hl2 (w := w) hw
  have escale : ∀ w, 1 ≤ w → w ≤ 14 → needP (l.map (sc k)) i (w * k) = needP l i w * k := fun w a b => by
    have := mul_in (x := w) (a := 1) (b := 14) hk (by decide) ⟨a, b⟩
    rw [need1 w (by omega), need2 (w * k) (by omega), ei, List.length_map, hN_scale hmid (by omega) hi w l.length (Nat.le_refl _), Int.add_mul]; rfl
  have key : ∀ v, 1 ≤ v → v ≤ mostP l i * k → needP (l.map (sc k)) i v ≤ v → ∃ m, 1 ≤ m ∧ m * k ≤ v ∧ needP l i m ≤ m := fun v a b c => by
    obtain ⟨x, hx⟩ := hN_multiple (k := k) hi v (l.map (sc k)).length (by simp)
    have e : needP (l.map (sc k)) i v = ((atI l i).C + x) * k := by
      rw [need2 v (by omega), hx, ei, Int.add_mul]; rfl
    have hu : u64in v := by unfold u64in; omega
    obtain ⟨n1, n2⟩ := needP_in hb2 hu
    rw [e] at c n2
    generalize hm : (atI l i).C + x = m at *
    have hm1' : 1 ≤ m := by
      rcases Int.lt_or_le m 1 with h | h
      · have := Int.mul_le_mul_of_nonneg_right (show m ≤ 0 by omega) (show 0 ≤ k by omega)
        rw [Int.zero_mul] at this; omega
      · exact h
    have hm14 : m ≤ 14 := by
      rcases Int.lt_or_le 14 m with h | h
      · have h1 := Int.mul_le_mul_of_nonneg_right (show (15 : Int) ≤ m by omega) (show 0 ≤ k by omega)
        have h2 := Int.mul_le_mul_of_nonneg_right hmost (show 0 ≤ k by omega)
        omega
      · exact h
    have hmk := mul_in (x := m) (a := 1) (b := 14) hk (by decide) ⟨hm1', hm14⟩
    have h5 := needP_mono hb2 (w := m * k) (v := v) (by unfold u64in; omega) c
    rw [escale m hm1' hm14, e] at h5
    refine ⟨m, hm1', c, ?_⟩
    exact Int.le_of_mul_le_mul_right h5 (by omega)
  have hlen1 : ((mostP l i * k).toNat : Int) = mostP l i * k := by omega
  cases hls : leastP l i with
  | none =>
    have L0 := leastP_none hls
    unfold leastP
    rw [em]
    refine least_none _ _ fun v a b => ?_
    rcases Int.lt_or_le v (needP (l.map (sc k)) i v) with h | h
    · exact h
    · obtain ⟨m, m1, m2, m3⟩ := key v a (by omega) h
      have h2 : m ≤ mostP l i := by
        have : m * k ≤ mostP l i * k := by omega
        exact Int.le_of_mul_le_mul_right this (by omega)
      have := L0 m m1 h2
      omega
  | some w =>
    obtain ⟨⟨w1, w2⟩, w3, w4⟩ := leastP_some hb hls
    have hwk := mul_in (x := w) (a := 1) (b := 14) hk (by decide) ⟨w1, by omega⟩
    have h6 := Int.mul_le_mul_of_nonneg_right w2 (show 0 ≤ k by omega)
    unfold leastP
    rw [em]
    show _ = some (w * k)
    refine least_some (by rw [escale w w1 (by omega), w3]; omega) _ _ hwk.1 (by omega) fun v a b => ?_
    rcases Int.lt_or_le v (needP (l.map (sc k)) i v) with h | h
    · exact h
    · obtain ⟨m, m1, m2, m3⟩ := key v a (by omega) h
      have h2 : m < w := by
        rcases Int.lt_or_le m w with h7 | h7
        · exact h7
        · have := Int.mul_le_mul_of_nonneg_right h7 (show 0 ≤ k by omega); omega
      have := w4 m m1 h2
      omega
theorem bound_scale {l : List Task} (hv : validP l) (hs : ∀ t ∈ l, Sml t) (hn : l.length ≤ 6) {k : Int} (hk : 1 ≤ k ∧ k ≤ 33554432) {i : Int} (hi : 0 ≤ i ∧ i < l.length) :
    (boundP (l.map (sc k)) i).1 = (boundP l i).1 * k ∧ (boundP (l.map (sc k)) i).2 = (boundP l i).2 := by
  have hb := valid_isP hv hi.1 hi.2
  have hb2 := valid_isP (sc_valid hv hs hk) hi.1 (by simpa using hi.2)
  have ei : atI (l.map (sc k)) i = sc k (atI l i) := atI_map_in _ hi.1 hi.2
  unfold boundP
  rw [if_pos hb, if_pos hb2, least_scale hv hs hn hk hi, ei]
  cases leastP l i with
  | none => simp
  | some w => simp [sc, Int.add_mul]
end Go.L.Try
set_option maxHeartbeats 4000000
namespace Go.L.Try
open Go Go.L
variable {E : Env} {G : Nat}
def PrfV (ts : List Task) (os : List ByteArray) (cs : List (ByteArray × Int)) (h : Heap) (v : Value) : Prop := ∃ us, v = .agg us.toArray ∧ Each h [fun h v => Rd 7 encT h v ts, fun h v => Rd 1 encW h v os, fun h v => Rd 2 encC h v cs] us
def MakeV (ts : List Task) (os : List ByteArray) (cs : List (ByteArray × Int)) (e : Int) (h : Heap) (v : Value) : Prop := ∃ vs, v = .tuple vs.toArray ∧ Each h [PrfV ts os cs, fun _ v => v = .int .i64 e] vs
theorem flatW : Flat encW := fun _ => rfl
theorem flatC : Flat encC := fun _ => rfl
theorem MakeV.movable (m : Nat) (ts : List Task) (os : List ByteArray) (cs : List (ByteArray × Int)) (e : Int) : Movable m (MakeV ts os cs e) 3 := by
  refine Movable.tuples (k := 2) (fun R hR => ?_) (by simp)
  simp only [List.mem_cons, List.not_mem_nil, or_false] at hR
  rcases hR with rfl | rfl
  · refine Movable.aggs (k := 1) (fun R hR => ?_) (by simp)
    simp only [List.mem_cons, List.not_mem_nil, or_false] at hR
    rcases hR with rfl | rfl | rfl
    · exact Rd.movable flatT _
    · exact Rd.movable flatW _
    · exact Rd.movable flatC _
  · exact ⟨(movable_eq (v0 := .int .i64 e) rfl).move, fun h v hr => by subst hr; rfl⟩
def GoodO (l : List Task) (o : List Nat) : Prop := (∀ i, i ∈ o ↔ i < l.length) ∧ o.Pairwise (ltP l)
def restD : Nat → C → C
  | 0, c => c
  | n + 1, .seq _ b => restD n b
  | _ + 1, c => c
theorem certMake (hE : Laid E) (hX : LaidAdd E) (hZ : LaidTz E G) {h : Heap} (ht : Tab G h) {vl : Value} {l : List Task} (hl : Rd 7 encT h vl l) (hs : ∀ t ∈ l, t.name.size < 1152921504606846976) (hn20 : l.length < 20) :
    ∃ v ys, callW E (.func (.func n_cert_Make) #[] #[]) [vl] h = some (v, h ++ ys, []) ∧ ∃ o, (allE l = 0 → GoodO l o) ∧ MakeV (if allE l = 0 then l else []) (if allE l = 0 then nmO l o else []) (if allE l = 0 then clO l (allR l) l.length else []) (allE l) (h ++ ys) v := by
  have hmov : Movable h.length (fun hh v => ∃ o, (allE l = 0 → GoodO l o) ∧ MakeV (if allE l = 0 then l else []) (if allE l = 0 then nmO l o else []) (if allE l = 0 then clO l (allR l) l.length else []) (allE l) hh v) 3 := by
    refine Movable.ex fun o => ?_
    have h1 := MakeV.movable h.length (if allE l = 0 then l else []) (if allE l = 0 then nmO l o else []) (if allE l = 0 then clO l (allR l) l.length else []) (allE l)
    exact ⟨fun ρ a b d v v' hm hv ⟨p, q⟩ => ⟨p, h1.move ρ a b d v v' hm hv q⟩, fun a v ⟨_, q⟩ => h1.noy a v q⟩
  refine fn_new hE.cert_Make rfl hmov (by simp) ?_
  have hvl1 := hl.one
  have hvl2 := hl.cv
  simp only [argsF]
  (repeat' (first | (with_reducible refine A1 (fun _ => ?_) (fun _ => ?_) <;> try (exfalso; omega)) | (with_reducible refine A2 (fun _ => ?_) (fun _ => ?_) <;> try (exfalso; omega)) | (with_reducible refine A3 (fun _ => ?_) (fun _ => ?_) <;> try (exfalso; omega)) | refine A4 (fun _ => ?_) (fun _ => ?_) | refine A5 (fun _ => ?_) (fun _ => ?_) | refine A6 (fun _ => ?_) (fun _ => ?_) | simp -dsimp (disch := omega) only [↓EA, EB, Nat.reduceEqDiff, Nat.reduceAdd, Nat.reduceLeDiff, Nat.reduceMul, ↓reduceIte, reduceCtorEq, newCells, bslV, eq_self, *]))
  have ht1 := ht.app [.cells [.slice none 0 0, .slice none 0 0, .slice none 0 0] false]
  have hl1 := hl.app [.cells [.slice none 0 0, .slice none 0 0, .slice none 0 0] false]
  refine wx_new (allS_ hE hX hZ ht1 hl1 hs) fun v ys hr p1 => ?_
  obtain ⟨vs, rfl, he⟩ := hr
  obtain ⟨va, vm, ve, rfl, ha, hm, rfl⟩ := each3 he
  have hb2 : (h ++ [LObj.cells [.slice none 0 0, .slice none 0 0, .slice none 0 0] false] ++ ys)[h.length]? = some (.cells [.slice none 0 0, .slice none 0 0, .slice none 0 0] false) := p1 _ _ (by rw [geta0]; rfl)
  have hp := (Pre.app h [LObj.cells [.slice none 0 0, .slice none 0 0, .slice none 0 0] false]).trans p1
  have ha1 := ha.one
  have ha2 := ha.cv
  have hm1 := hm.one
  have hm2 := hm.cv
  have na := Rd.nt ha
  have nm := Rd.nt hm
  have hlH := hl1.pre p1
  have hHl : h.length < (h ++ [LObj.cells [.slice none 0 0, .slice none 0 0, .slice none 0 0] false] ++ ys).length := by simp
  clear he p1 ht1 hl1
  generalize h ++ [LObj.cells [.slice none 0 0, .slice none 0 0, .slice none 0 0] false] ++ ys = H at *
  by_cases hok : allE l = 0
  · obtain ⟨hv, hbz⟩ := (allE_zero l).1 hok
    simp only [hok, if_true]
    have hn := (valid_iff.1 hv).1
    have hne : l ≠ [] := fun e => by rw [e] at hn; simp at hn
    have hvn : vl ≠ .slice none 0 0 := fun e => by have := hl.len; rw [e] at this; simp [lensV] at this; omega
    have hvb := hl.lt' hvn
    have hbR : ∀ k : Nat, k < l.length → (0 ≤ atI (allR l) (k : Int) ∧ atI (allR l) (k : Int) ≤ 4294967296) ∧ 0 ≤ (atI l (k : Int)).J ∧ (atI l (k : Int)).J ≤ 2147483647 := fun k hk => by
      have hokt := (valid_iff.1 hv).2.1 _ (atI_mem (l := l) (i := (k : Int)) (by omega) (by omega))
      have hr := hokt.1
      simp only [rangesB] at hr
      have e : atI (allR l) (k : Int) = (boundP l (k : Int)).1 := by
        unfold allR
        rw [if_pos hv, atI_nat (by rw [rN_len]; exact hk)]
        simp [rN]
      have hb0 := hbz k hk
      have hisP := valid_isP (i := (k : Int)) hv (by omega) (by omega)
      rw [e]
      unfold boundP at hb0 ⊢
      rw [if_pos hisP] at hb0 ⊢
      split at hb0
      · rename_i w hw
        obtain ⟨⟨w1, w2⟩, _⟩ := leastP_some hisP hw
        have w3 : mostP l (k : Int) = (atI l (k : Int)).D - (atI l (k : Int)).J := rfl
        dsimp only
        omega
      · exact absurd hb0 (by decide)
    have hRl : (allR l).length = l.length := by unfold allR; rw [if_pos hv, rN_len]
    have ho := hlH.cells
    (repeat' (first | (with_reducible refine A1 (fun _ => ?_) (fun _ => ?_) <;> try (exfalso; omega)) | (with_reducible refine A2 (fun _ => ?_) (fun _ => ?_) <;> try (exfalso; omega)) | (with_reducible refine A3 (fun _ => ?_) (fun _ => ?_) <;> try (exfalso; omega)) | refine A4 (fun _ => ?_) (fun _ => ?_) | refine A5 (fun _ => ?_) (fun _ => ?_) | refine A6 (fun _ => ?_) (fun _ => ?_) | simp -dsimp (disch := omega) only [↓EA, EB, Nat.reduceEqDiff, Nat.reduceAdd, Nat.reduceLeDiff, Nat.reduceMul, ↓reduceIte, reduceCtorEq, newCells, bslV, eq_self, *]))
    refine wx_append (sz := 7) (m := H.length) (bytes := 64) (OwnT.nil (enc := encT)) (Nat.le_refl _) (fun x hx => by omega) (l.map encT) (by rw [ho]; simp) (by simpa using hne) (fun e he => by obtain ⟨a, _, rfl⟩ := List.mem_map.1 he; rfl) (by decide) (by decide) (by simp; omega) ?_
    intro vt h2 q1 q2 q3 q4
    have rt : OwnT H.length 7 encT h2 vt l := by unfold OwnT; simpa using q1
    have hpH : Pre H h2 := fun b o hb => by rw [q4 b (List.getElem?_eq_some_iff.1 hb).1 (fun h _ => h rfl)]; exact hb
    have hb2' := hpH _ _ hb2
    have hl2 := hlH.pre hpH
    have hR2 := ha.pre hpH
    have hp2 := hp.trans hpH
    have ot := rt.rd.one
    have ct := rt.rd.cv
    have hHle := hpH.le
    have q5 : H.length + 1 ≤ h2.length := by omega
    clear q1 q2 q3 q4 hb2 hlH ho hp
    (repeat' (first | (with_reducible refine A1 (fun _ => ?_) (fun _ => ?_) <;> try (exfalso; omega)) | (with_reducible refine A2 (fun _ => ?_) (fun _ => ?_) <;> try (exfalso; omega)) | (with_reducible refine A3 (fun _ => ?_) (fun _ => ?_) <;> try (exfalso; omega)) | refine A4 (fun _ => ?_) (fun _ => ?_) | refine A5 (fun _ => ?_) (fun _ => ?_) | refine A6 (fun _ => ?_) (fun _ => ?_) | simp -dsimp (disch := omega) only [↓EA, EB, Nat.reduceEqDiff, Nat.reduceAdd, Nat.reduceLeDiff, Nat.reduceMul, ↓reduceIte, reduceCtorEq, newCells, bslV, eq_self, *]))
    refine ⟨by omega, ?_⟩
    refine wx_new (orderT hE (hl2.app _) hn20) fun v26 ys ⟨o, ro, om, op⟩ pO => ?_
    obtain ⟨olen, _⟩ := order_rank om op
    have hb3 : (h2 ++ [LObj.cells [vt, .slice none 0 0, .slice none 0 0] false] ++ ys)[h2.length]? = some (.cells [vt, .slice none 0 0, .slice none 0 0] false) := pO _ _ (by rw [geta0]; rfl)
    have p3 : Pre h2 (h2 ++ [LObj.cells [vt, .slice none 0 0, .slice none 0 0] false] ++ ys) := (Pre.app h2 _).trans pO
    have hl3 := hl2.pre p3
    have hR3 := hR2.pre p3
    have ro3 := ro.rd
    have hbo : v26 ≠ .slice none 0 0 → blk v26 ≠ h2.length := fun hn e => by
      have h8 := ro.ge (fun e2 => by have := congrArg List.length e2; rw [List.length_map, olen, List.length_nil] at this; omega)
      rw [List.length_append] at h8
      simp only [List.length_cons, List.length_nil] at h8
      omega
    have h3l : h2.length < (h2 ++ [LObj.cells [vt, .slice none 0 0, .slice none 0 0] false] ++ ys).length := by simp
    have rt3 := rt.pre p3
    have hvt : H.length ≤ blk vt ∧ blk vt < h2.length := ⟨rt.ge hne, rt.lt hne⟩
    obtain ⟨hvt1, hvt2⟩ := hvt
    have hp3 := hp2.trans p3
    have hb23 := p3 _ _ hb2'
    have hlo := ro3.len
    rw [List.length_map, olen] at hlo
    clear pO ro hl2 hR2 rt hb2' p3 hp2
    generalize h2 ++ [LObj.cells [vt, .slice none 0 0, .slice none 0 0] false] ++ ys = H3 at *
    (repeat' (first | (with_reducible refine A1 (fun _ => ?_) (fun _ => ?_) <;> try (exfalso; omega)) | (with_reducible refine A2 (fun _ => ?_) (fun _ => ?_) <;> try (exfalso; omega)) | (with_reducible refine A3 (fun _ => ?_) (fun _ => ?_) <;> try (exfalso; omega)) | refine A4 (fun _ => ?_) (fun _ => ?_) | refine A5 (fun _ => ?_) (fun _ => ?_) | refine A6 (fun _ => ?_) (fun _ => ?_) | simp -dsimp (disch := omega) only [↓EA, EB, Nat.reduceEqDiff, Nat.reduceAdd, Nat.reduceLeDiff, Nat.reduceMul, ↓reduceIte, reduceCtorEq, newCells, bslV, eq_self, *, hlo]))
    refine make_l0 hE (h0 := h) (H := H3) (b := h2.length) hl3 (fun _ => by omega) ro3 hbo (fun i hi => (om i).1 hi) (by omega) hp3 (by omega) h3l hb3 ot (fun x hx => hx) rfl rfl rfl rfl rfl (by rw [olen]; rfl) rfl fun fr' h4 vo p4 l4 s4 b4 o4 g0 g2 g4 g7 => ?_
    have hl4 : Rd 7 encT h4 vl l := hl3.keep fun hn => s4 _ (hl3.lt' hn) (by omega)
    have hR4 : Rd 1 encI h4 va (allR l) := hR3.keep fun hn => s4 _ (hR3.lt' hn) (by have := ha.lt' hn; omega)
    have oo4 := o4.rd.one
    have oc4 := o4.rd.cv
    have hl4e := hl4.len
    (repeat' (first | (with_reducible refine A1 (fun _ => ?_) (fun _ => ?_) <;> try (exfalso; omega)) | (with_reducible refine A2 (fun _ => ?_) (fun _ => ?_) <;> try (exfalso; omega)) | (with_reducible refine A3 (fun _ => ?_) (fun _ => ?_) <;> try (exfalso; omega)) | refine A4 (fun _ => ?_) (fun _ => ?_) | refine A5 (fun _ => ?_) (fun _ => ?_) | refine A6 (fun _ => ?_) (fun _ => ?_) | simp -dsimp (disch := omega) only [↓EA, EB, Nat.reduceEqDiff, Nat.reduceAdd, Nat.reduceLeDiff, Nat.reduceMul, ↓reduceIte, reduceCtorEq, newCells, bslV, eq_self, *, hl4e]))
    refine make_l1 hE (h0 := h) (H := h4) (b := h2.length) hl4 (fun _ => by omega) hR4 (fun hn => by have := ha.lt' hn; omega) hRl (by omega) hbR p4 (by omega) (by omega) b4 ot oo4 (fun x hx => hx) rfl rfl rfl rfl rfl rfl fun fr2 h5 vc p5 l5 s5 b5 c5 k2 k7 => ?_
    have oc5 := c5.rd.one
    have cc5 := c5.rd.cv
    have b25 : h5[h.length]? = some (.cells [.slice none 0 0, .slice none 0 0, .slice none 0 0] false) := by rw [s5 _ (by omega) (by omega), s4 _ (by omega) (by omega)]; exact hb23
    have rt4 : OwnT H.length 7 encT h4 vt l := rt3.keep fun _ => s4 _ (by omega) (by omega)
    have rt5 : OwnT H.length 7 encT h5 vt l := rt4.keep fun _ => s5 _ (by omega) (by omega)
    have o5 : OwnT H3.length 1 encW h5 vo (nmO l o) := o4.keep fun hn => s5 _ (o4.lt hn) (by have := o4.ge hn; omega)
    have hh5 : h.length < h5.length := by omega
    have rt6 : OwnT H.length 7 encT (h5.set h.length (.cells [vt, vo, vc] false)) vt l := rt5.keep fun _ => by rw [gets (by omega)]
    have o6 : OwnT H3.length 1 encW (h5.set h.length (.cells [vt, vo, vc] false)) vo (nmO l o) := o5.keep fun hn => by rw [gets (by have := o5.ge hn; omega)]
    have c6 : OwnT h4.length 2 encC (h5.set h.length (.cells [vt, vo, vc] false)) vc (clO l (allR l) l.length) := c5.keep fun hn => by rw [gets (by have := c5.ge hn; omega)]
    have Hfin := Hid.mk (And.intro (p5.set (Nat.le_refl _) (.cells [vt, vo, vc] false)) (And.intro rt6.rd (And.intro o6.rd (And.intro c6.rd (And.intro om op)))))
    have Hok := Hid.mk hok
    clear rt3 rt4 rt5 rt6 o4 o5 o6 c5 c6 om op hl3 hl4 hR3 hR4 ro3 s4 s5 hb3 b4 hb23 hok hbR ha hm hv hbz hmov hl hs ht
    (repeat' (first | (with_reducible refine A1 (fun _ => ?_) (fun _ => ?_) <;> try (exfalso; omega)) | (with_reducible refine A2 (fun _ => ?_) (fun _ => ?_) <;> try (exfalso; omega)) | (with_reducible refine A3 (fun _ => ?_) (fun _ => ?_) <;> try (exfalso; omega)) | refine A4 (fun _ => ?_) (fun _ => ?_) | refine A5 (fun _ => ?_) (fun _ => ?_) | refine A6 (fun _ => ?_) (fun _ => ?_) | simp -dsimp (disch := omega) only [↓EA, EB, Nat.reduceEqDiff, Nat.reduceAdd, Nat.reduceLeDiff, Nat.reduceMul, ↓reduceIte, reduceCtorEq, newCells, bslV, eq_self, *]))
    obtain ⟨f1, f2, f3, f4, f5, f6⟩ := Hfin.out
    have hok := Hok.out
    simp only [hok, if_true]
    exact ⟨f1.ex, o, fun _ => ⟨f5, f6⟩, _, rfl, .cons ⟨_, rfl, .cons f2 (.cons f3 (.cons f4 .nil))⟩ (.cons rfl .nil)⟩
  · simp only [hok, if_false]
    generalize allE l = e at *
    (repeat' (first | (with_reducible refine A1 (fun _ => ?_) (fun _ => ?_) <;> try (exfalso; omega)) | (with_reducible refine A2 (fun _ => ?_) (fun _ => ?_) <;> try (exfalso; omega)) | (with_reducible refine A3 (fun _ => ?_) (fun _ => ?_) <;> try (exfalso; omega)) | refine A4 (fun _ => ?_) (fun _ => ?_) | refine A5 (fun _ => ?_) (fun _ => ?_) | refine A6 (fun _ => ?_) (fun _ => ?_) | simp -dsimp (disch := omega) only [↓EA, EB, Nat.reduceEqDiff, Nat.reduceAdd, Nat.reduceLeDiff, Nat.reduceMul, ↓reduceIte, reduceCtorEq, newCells, bslV, eq_self, *]))
    exact ⟨(hp.set (Nat.le_refl _) _).ex, [], fun h => h.elim, _, rfl, .cons ⟨_, rfl, .cons Rd.of_nil (.cons Rd.of_nil (.cons Rd.of_nil .nil))⟩ (.cons rfl .nil)⟩
end Go.L.Try
namespace Go.L.Try
open Go Go.L
variable {E : Env} {G : Nat}
def GotP (ts : List Task) (os : List ByteArray) (cs : List (ByteArray × Int)) (e : Int) (h : Heap) (v : Value) : Prop := ∃ us, v = .agg us.toArray ∧ Each h [fun h v => Rd 7 encT h v ts, fun h v => Rd 1 encW h v os, fun h v => Rd 2 encC h v cs, fun _ v => v = .int .i64 0, fun _ v => v = .int .i64 e] us
theorem GotP.movable (m : Nat) (ts : List Task) (os : List ByteArray) (cs : List (ByteArray × Int)) (e : Int) : Movable m (GotP ts os cs e) 2 := by
  refine Movable.aggs (k := 1) (fun R hR => ?_) (by simp)
  simp only [List.mem_cons, List.not_mem_nil, or_false] at hR
  rcases hR with rfl | rfl | rfl | rfl | rfl
  · exact Rd.movable flatT _
  · exact Rd.movable flatW _
  · exact Rd.movable flatC _
  · exact movable_eq rfl
  · exact movable_eq rfl
theorem ref_l0 (hE : Laid E) {h0 H : Heap} {vl : Value} {l : List Task} {o : List Nat} {b : Nat} {W : Nat → Prop} (hv : validP l) (hs : ∀ t ∈ l, t.name.size < 1152921504606846976) (hl : Rd 7 encT H vl l) (hbl : blk vl ≠ b) (hg : GoodO l o) (hn : l.length ≤ 1024)
    (hp : Pre h0 H) (hb0 : h0.length ≤ b) (hbH : b < H.length) (hb : H[b]? = some (.cells [vl, .slice none 0 0, .slice none 0 0] false)) (hW : ∀ x, h0.length ≤ x → W x) {Q : Ex → Fr → Heap → Prop} {fr : Fr}
    (hJ : ∀ k : Nat, k < l.length → (0 ≤ (boundP l (k : Int)).1 ∧ (boundP l (k : Int)).1 ≤ 4294967296) ∧ 0 ≤ (atI l (k : Int)).J ∧ (atI l (k : Int)).J ≤ 2147483647)
    (g0 : get fr 0 = vl) (g2 : get fr 2 = .pointer (some ⟨h0.length, 0, none⟩)) (g3 : get fr 3 = .pointer (some ⟨b, 0, none⟩)) (g4 : get fr 4 = .int .i64 0) (hb2 : H[h0.length]? = some (.cells [.slice none 0 0, .slice none 0 0, .slice none 0 0, .int .i64 0, .int .i64 0] false)) (hb2b : h0.length ≠ b)
    (hbad : (∃ k, k < l.length ∧ (boundP l (k : Int)).2 ≠ 0) → ∀ fr' h', Pre h0 h' → h'[h0.length]? = some (.cells [.slice none 0 0, .slice none 0 0, .slice none 0 0, .int .i64 0, .int .i64 16] false) → get fr' 2 = .pointer (some ⟨h0.length, 0, none⟩) → Q .ret fr' h')
    (hq : (∀ k : Nat, k < l.length → (boundP l (k : Int)).2 = 0) → ∀ fr' h' vo vc, Pre h0 h' → H.length ≤ h'.length → (∀ x, x < H.length → x ≠ b → h'[x]? = H[x]?) → h'[b]? = some (.cells [vl, vo, vc] false) → OwnT H.length 1 encW h' vo (nmO l o) → OwnT H.length 2 encC h' vc (clO l (rN l l.length) l.length) → get fr' 2 = .pointer (some ⟨h0.length, 0, none⟩) → get fr' 3 = .pointer (some ⟨b, 0, none⟩) → Q (.exit 0) fr' h') :
    WO W (iterW (code (callW E) iterW 59 c_ref20_Make_l0) fr H) Q := by
  obtain ⟨olen, ork⟩ := order_rank hg.1 hg.2
  refine WO.loop (fun (k : Nat) fr h' => k ≤ l.length ∧ (∀ j : Nat, j < k → (boundP l (j : Int)).2 = 0) ∧ Pre h0 h' ∧ H.length ≤ h'.length ∧ (∀ x, x < H.length → x ≠ b → h'[x]? = H[x]?) ∧ (∃ vo vc, h'[b]? = some (.cells [vl, vo, vc] false) ∧ OwnT H.length 1 encW h' vo (nmO l (o.take k)) ∧ OwnT H.length 2 encC h' vc (clO l (rN l l.length) k) ∧ (k ≠ 0 → blk vo ≠ blk vc)) ∧ get fr 0 = vl ∧ get fr 2 = .pointer (some ⟨h0.length, 0, none⟩) ∧ get fr 3 = .pointer (some ⟨b, 0, none⟩) ∧ get fr 4 = .int .i64 k) (fun k => l.length - k) ?_ 0 ⟨Nat.zero_le _, fun j hj => by omega, hp, Nat.le_refl _, fun _ _ _ => rfl, ⟨_, _, hb, OwnT.nil, OwnT.nil, fun h => absurd rfl h⟩, g0, g2, g3, g4⟩
  clear g0 g2 g3 g4
  rintro k fr h' ⟨hk, hz, hp', hlen, hsame, ⟨vo, vc, hb', how, hcw, hoc⟩, g0, g2, g3, g4⟩
  unfold c_ref20_Make_l0
  have hne : vl ≠ .slice none 0 0 := fun e => by have := hl.len; rw [e] at this; simp [lensV] at this; have := (valid_iff.1 hv).1; omega
  have hlt' := hl.lt' hne
  have hl' : Rd 7 encT h' vl l := hl.keep fun _ => hsame _ hlt' hbl
  rcases Nat.lt_or_ge k l.length with hlt | hge
  · have hbd := bound14 hE hl' hs (k : Int)
    have hko : k < o.length := by omega
    have hbu := fun hh (hr : Rd 7 encT hh vl l) => byUrgencyS hE hr (i0 := o[k]) ((hg.1 _).1 (List.getElem_mem hko)) hn
    rw [ork k hko] at hbu
    have Hbu := Hid.mk hbu
    clear hbu
    have hb2' : h'[h0.length]? = some (.cells [.slice none 0 0, .slice none 0 0, .slice none 0 0, .int .i64 0, .int .i64 0] false) := by rw [hsame _ (List.getElem?_eq_some_iff.1 hb2).1 hb2b]; exact hb2
    by_cases he : (boundP l (k : Int)).2 = 0
    · have hr1 := (hJ k hlt).1
      have hr2 := (hJ k hlt).2
      have hil := (hg.1 _).1 (List.getElem_mem hko)
      have Hnm := Hid.mk (show nmO l (o.take (k + 1)) = nmO l (o.take k) ++ [(atI l (o[k] : Int)).name] by
        unfold nmO
        rw [Go.L.take_snoc hko, List.map_append, atI_nat hko]; rfl)
      have hrn : atI (rN l l.length) (k : Int) = (boundP l (k : Int)).1 := by
        rw [atI_nat (by rw [rN_len]; exact hlt)]; simp [rN]
      have Hcl := Hid.mk (show clO l (rN l l.length) (k + 1) = clO l (rN l l.length) k ++ [((atI l (k : Int)).name, (boundP l (k : Int)).1 - (atI l (k : Int)).J)] by rw [clO_succ, hrn])
      have Hz := Hid.mk (show ∀ j : Nat, j < k + 1 → (boundP l (j : Int)).2 = 0 from fun j hj => by
        rcases Nat.lt_or_ge j k with h | h
        · exact hz j h
        · rw [show j = k by omega]; exact he)
      have hnl : (nmO l (o.take k)).length ≤ 1024 := by unfold nmO; simp; omega
      have hcl : (clO l (rN l l.length) k).length ≤ 1024 := by unfold clO; simp; omega
      have Ho := Hid.mk how
      have Hc := Hid.mk hcw
      have Hoc := Hid.mk hoc
      have oo := how.rd.one
      have oc := how.rd.cv
      have co := hcw.rd.one
      have cc := hcw.rd.cv
      have hWb := hW b hb0
      rw [he] at hbd
      clear hbad hq hz hoc he how hcw hrn
      generalize (boundP l (k : Int)).1 = r at *
      generalize o[k] = q at *
      have hql : (q : Int) < l.length := by omega
      have K1 : Pre h' (h' ++ [LObj.cells [.int .i64 r, .int .i64 0] false]) := Pre.app h' _
      have K2 : ∀ x, (h' ++ [LObj.cells [.int .i64 r, .int .i64 0] false] ++ x)[h'.length]? = some (.cells [.int .i64 r, .int .i64 0] false) := fun x => by rw [List.append_assoc, geta0]; rfl
      have K3 : ∀ x, (h' ++ [LObj.cells [.int .i64 r, .int .i64 0] false] ++ x)[b]? = some (.cells [vl, vo, vc] false) := fun x => by rw [List.append_assoc, List.getElem?_append_left (by omega)]; exact hb'
      have hvlo := hl.one
      have hvlc := hl.cv
      (repeat' (first | (with_reducible refine A1 (fun _ => ?_) (fun _ => ?_) <;> try (exfalso; omega)) | (with_reducible refine A2 (fun _ => ?_) (fun _ => ?_) <;> try (exfalso; omega)) | (with_reducible refine A3 (fun _ => ?_) (fun _ => ?_) <;> try (exfalso; omega)) | refine A4 (fun _ => ?_) (fun _ => ?_) | refine A5 (fun _ => ?_) (fun _ => ?_) | refine A6 (fun _ => ?_) (fun _ => ?_) | simp -dsimp (disch := omega) only [↓EA, EB, Nat.reduceEqDiff, Nat.reduceAdd, Nat.reduceLeDiff, Nat.reduceMul, ↓reduceIte, reduceCtorEq, newCells, bslV, eq_self, *, hl'.len, hl'.ixs, hl'.ld, hl'.ld0, hl'.lda, hl'.ldx, hl'.ldx0, hl'.ldxa]))
      refine ⟨by simp [low]; omega, ?_⟩
      have hlK := (hl'.pre K1).app [.dead]
      have hbK := Hbu.out _ hlK
      have hlK0 := hl'.pre K1
      have hpK := hp'.trans K1
      have K10 : (h' ++ [LObj.cells [.int .i64 r, .int .i64 0] false]).length = h'.length + 1 := by simp
      generalize h' ++ [LObj.cells [.int .i64 r, .int .i64 0] false] = K at *
      have K11 : h'.length + 1 ≤ K.length := by omega
      have K12 : K.length ≤ h'.length + 1 := by omega
      clear K10
      (repeat' (first | (with_reducible refine A1 (fun _ => ?_) (fun _ => ?_) <;> try (exfalso; omega)) | (with_reducible refine A2 (fun _ => ?_) (fun _ => ?_) <;> try (exfalso; omega)) | (with_reducible refine A3 (fun _ => ?_) (fun _ => ?_) <;> try (exfalso; omega)) | refine A4 (fun _ => ?_) (fun _ => ?_) | refine A5 (fun _ => ?_) (fun _ => ?_) | refine A6 (fun _ => ?_) (fun _ => ?_) | simp -dsimp (disch := omega) only [↓EA, EB, Nat.reduceEqDiff, Nat.reduceAdd, Nat.reduceLeDiff, Nat.reduceMul, ↓reduceIte, reduceCtorEq, newCells, bslV, eq_self, *, K3, hlK.len, hlK.ixs, hlK.ld, hlK.ld0, hlK.lda, hlK.ldx, hlK.ldx0, hlK.ldxa, encT]))
      refine wx_app1 (sz := 1) (bytes := 16) ((Ho.out.pre K1).app _) (hpK.app' _) (by have := hp.le; omega) (by simp; omega) (fun x hx => hW x (by omega)) (atI l (q : Int)).name (by rw [cellsOf_some, geta0]; rfl) rfl (by decide) (by decide) (by omega) ?_
      intro w2 h2 j1 j2 j3 j4 j5
      have hb3 : h2[b]? = some (.cells [vl, vo, vc] false) := by
        rw [j5 b (by simp; omega) (fun hn e => by have := Ho.out.ge hn; omega)]; exact K3 _
      have h5c : h2[h'.length]? = some (.cells [.int .i64 r, .int .i64 0] false) := by
        rw [j5 _ (by simp; omega) (fun hn e => by have := Ho.out.lt hn; omega)]; exact K2 _
      have hkeep : ∀ x, x < h'.length → (nmO l (o.take k) ≠ [] → x ≠ blk vo) → h2[x]? = h'[x]? := fun x hx hne => by
        rw [j5 x (by simp; omega) hne, List.getElem?_append_left (by omega), List.getElem?_eq_getElem hx]
        exact K1 _ _ (List.getElem?_eq_getElem hx)
      have hl3 : K.length + 2 ≤ h2.length ∧ h2.length ≤ K.length + 2 := by rw [j4]; simp
      obtain ⟨hl3a, hl3b⟩ := hl3
      have hbw : K.length ≤ blk w2 := by rw [j3]; simp
      have hwl := j1.lt (by simp)
      have Hc2 : OwnT H.length 2 encC h2 vc (clO l (rN l l.length) k) := Hc.out.keep fun hn => hkeep _ (Hc.out.lt hn) fun _ e => Hoc.out (fun e0 => hn (by subst e0; rfl)) e.symm
      have o2 := j1.rd.one
      have c2 := j1.rd.cv
      have hs2 : ∀ x, x < H.length → x ≠ b → h2[x]? = H[x]? := fun x hx hne => by
        rw [hkeep x (by omega) (fun hn e => by have := Ho.out.ge hn; omega)]; exact hsame x hx hne
      have P3 := j2.set hb0 (.cells [vl, w2, vc] false)
      have hb2l : b < h2.length := by omega
      have T1 : OwnT H.length 1 encW (h2.set b (.cells [vl, w2, vc] false)) w2 (nmO l (o.take k) ++ [(atI l (q : Int)).name]) := j1.keep fun _ => by rw [gets (by omega)]
      have T2 : OwnT H.length 2 encC (h2.set b (.cells [vl, w2, vc] false)) vc (clO l (rN l l.length) k) := Hc2.keep fun hn => by rw [gets (by have := Hc2.ge hn; omega)]
      have T3 : (h2.set b (.cells [vl, w2, vc] false))[b]? = some (.cells [vl, w2, vc] false) := gset hb2l
      have T4 : (h2.set b (.cells [vl, w2, vc] false))[h'.length]? = some (.cells [.int .i64 r, .int .i64 0] false) := by rw [gets (by omega)]; exact h5c
      have T5 : ∀ x, x < H.length → x ≠ b → (h2.set b (.cells [vl, w2, vc] false))[x]? = H[x]? := fun x hx hne => by rw [gets (Ne.symm hne)]; exact hs2 x hx hne
      have T6 : (h2.set b (.cells [vl, w2, vc] false)).length = h2.length := by simp
      have T7 : Rd 7 encT (h2.set b (.cells [vl, w2, vc] false)) vl l := hl.keep fun _ => T5 _ hlt' hbl
      have Hvc := Hid.mk (show clO l (rN l l.length) k ≠ [] → blk vc < h'.length from fun hn => Hc.out.lt hn)
      clear j1 j2 j3 j4 j5 hkeep Hc2 hs2 h5c K1 K2 K3 hlK hbK hlK0 hpK Ho Hc hb'
      (repeat' (first | (with_reducible refine A1 (fun _ => ?_) (fun _ => ?_) <;> try (exfalso; omega)) | (with_reducible refine A2 (fun _ => ?_) (fun _ => ?_) <;> try (exfalso; omega)) | (with_reducible refine A3 (fun _ => ?_) (fun _ => ?_) <;> try (exfalso; omega)) | refine A4 (fun _ => ?_) (fun _ => ?_) | refine A5 (fun _ => ?_) (fun _ => ?_) | refine A6 (fun _ => ?_) (fun _ => ?_) | simp -dsimp (disch := omega) only [↓EA, EB, Nat.reduceEqDiff, Nat.reduceAdd, Nat.reduceLeDiff, Nat.reduceMul, ↓reduceIte, reduceCtorEq, newCells, bslV, eq_self, *]))
      refine ⟨by simp [low]; omega, ?_⟩
      generalize h2.set b (.cells [vl, w2, vc] false) = H3 at *
      have T3x : ∀ x, (H3 ++ x)[b]? = some (.cells [vl, w2, vc] false) := fun x => Pre.app H3 x _ _ T3
      have T4x : ∀ x, (H3 ++ x)[h'.length]? = some (.cells [.int .i64 r, .int .i64 0] false) := fun x => Pre.app H3 x _ _ T4
      have T7d := T7.app [.dead]
      have T6a : H3.length ≤ h2.length := by omega
      have T6b : h2.length ≤ H3.length := by omega
      clear T6 T3 T4
      have hkl : (k : Int) < l.length := by omega
      (repeat' (first | (with_reducible refine A1 (fun _ => ?_) (fun _ => ?_) <;> try (exfalso; omega)) | (with_reducible refine A2 (fun _ => ?_) (fun _ => ?_) <;> try (exfalso; omega)) | (with_reducible refine A3 (fun _ => ?_) (fun _ => ?_) <;> try (exfalso; omega)) | refine A4 (fun _ => ?_) (fun _ => ?_) | refine A5 (fun _ => ?_) (fun _ => ?_) | refine A6 (fun _ => ?_) (fun _ => ?_) | simp -dsimp (disch := omega) only [↓EA, EB, Nat.reduceEqDiff, Nat.reduceAdd, Nat.reduceLeDiff, Nat.reduceMul, ↓reduceIte, reduceCtorEq, newCells, bslV, eq_self, *, T3x, T4x, T7d.len, T7d.ixs, T7d.ld, T7d.ld0, T7d.lda, T7d.ldx, T7d.ldx0, T7d.ldxa, encT]))
      refine wx_app1 (sz := 2) (bytes := 24) (T2.app _) (P3.app' _) (by have := hp.le; omega) (by simp; omega) (fun x hx => hW x (by omega)) ((atI l (k : Int)).name, r - (atI l (k : Int)).J) (by rw [cellsOf_some, geta0]; rfl) rfl (by decide) (by decide) (by omega) ?_
      intro w4 h4 j1 j2 j3 j4 j5
      have hb4 : h4[b]? = some (.cells [vl, w2, vc] false) := by
        rw [j5 b (by simp; omega) (fun hn e => by have := T2.ge hn; omega)]; exact T3x _
      have hl4 : H3.length + 2 ≤ h4.length := by rw [j4]; simp
      have hbw4 : H3.length ≤ blk w4 := by rw [j3]; simp
      have hbv : clO l (rN l l.length) k ≠ [] → blk vc < h'.length := Hvc.out
      have o4 := j1.rd.one
      have c4 := j1.rd.cv
      have hk4 : ∀ x, x < H3.length → (clO l (rN l l.length) k ≠ [] → x ≠ blk vc) → h4[x]? = H3[x]? := fun x hx hne => by
        rw [j5 x (by simp; omega) hne, List.getElem?_append_left hx]
      have U1 : OwnT H.length 1 encW (h4.set b (.cells [vl, w2, w4] false)) w2 (nmO l (o.take k) ++ [(atI l (q : Int)).name]) := T1.keep fun _ => by rw [gets (by omega), hk4 _ (by omega) (fun hn e => by have := hbv hn; omega)]
      have U2 : OwnT H.length 2 encC (h4.set b (.cells [vl, w2, w4] false)) w4 (clO l (rN l l.length) k ++ [((atI l (k : Int)).name, r - (atI l (k : Int)).J)]) := j1.keep fun _ => by rw [gets (by omega)]
      have hb4l : b < h4.length := by omega
      have U3 : (h4.set b (.cells [vl, w2, w4] false))[b]? = some (.cells [vl, w2, w4] false) := gset hb4l
      have U5 : ∀ x, x < H.length → x ≠ b → (h4.set b (.cells [vl, w2, w4] false))[x]? = H[x]? := fun x hx hne => by
        rw [gets (Ne.symm hne), hk4 x (by omega) (fun hn e => by have := T2.ge hn; omega)]; exact T5 x hx hne
      have U6 : H.length ≤ (h4.set b (.cells [vl, w2, w4] false)).length := by rw [List.length_set]; omega
      have U7 := j2.set hb0 (.cells [vl, w2, w4] false)
      have Hu := Hid.mk (And.intro U1 (And.intro U2 (And.intro U3 (And.intro U5 (And.intro U6 U7)))))
      clear j1 j2 j3 j4 j5 hk4 U1 U2 U3 U5 U6 U7 T1 T2 T5 T7 T7d T3x T4x P3 Hvc hbv
      (repeat' (first | (with_reducible refine A1 (fun _ => ?_) (fun _ => ?_) <;> try (exfalso; omega)) | (with_reducible refine A2 (fun _ => ?_) (fun _ => ?_) <;> try (exfalso; omega)) | (with_reducible refine A3 (fun _ => ?_) (fun _ => ?_) <;> try (exfalso; omega)) | refine A4 (fun _ => ?_) (fun _ => ?_) | refine A5 (fun _ => ?_) (fun _ => ?_) | refine A6 (fun _ => ?_) (fun _ => ?_) | simp -dsimp (disch := omega) only [↓EA, EB, Nat.reduceEqDiff, Nat.reduceAdd, Nat.reduceLeDiff, Nat.reduceMul, ↓reduceIte, reduceCtorEq, newCells, bslV, eq_self, *]))
      obtain ⟨f1, f2, f3, f4, f5, f6⟩ := Hu.out
      exact Next.mk (k + 1) ⟨by omega, Hz.out, f6, f5, f4, ⟨w2, w4, f3, by rw [Hnm.out]; exact f1, by rw [Hcl.out]; exact f2, fun _ => by omega⟩, rfl, rfl, rfl, rfl⟩ (by omega)
    · have Hbad := Hid.mk (hbad ⟨k, hlt, he⟩)
      clear hbad hq hz hoc
      generalize (boundP l (k : Int)).2 = e at *
      generalize (boundP l (k : Int)).1 = r at *
      have hl0 := (List.getElem?_eq_some_iff.1 hb2').1
      have hb2x : ∀ x, (h' ++ x)[h0.length]? = some (.cells [.slice none 0 0, .slice none 0 0, .slice none 0 0, .int .i64 0, .int .i64 0] false) := fun x => by rw [List.getElem?_append_left hl0]; exact hb2'
      have hW0 := hW h0.length (Nat.le_refl _)
      (repeat' (first | (with_reducible refine A1 (fun _ => ?_) (fun _ => ?_) <;> try (exfalso; omega)) | (with_reducible refine A2 (fun _ => ?_) (fun _ => ?_) <;> try (exfalso; omega)) | (with_reducible refine A3 (fun _ => ?_) (fun _ => ?_) <;> try (exfalso; omega)) | refine A4 (fun _ => ?_) (fun _ => ?_) | refine A5 (fun _ => ?_) (fun _ => ?_) | refine A6 (fun _ => ?_) (fun _ => ?_) | simp -dsimp (disch := omega) only [↓EA, EB, Nat.reduceEqDiff, Nat.reduceAdd, Nat.reduceLeDiff, Nat.reduceMul, ↓reduceIte, reduceCtorEq, newCells, bslV, eq_self, *, hl'.len, hl'.ixs, hl'.ld, hl'.ld0, hl'.lda, hl'.ldx, hl'.ldx0, hl'.ldxa, hb2x]))
      exact Hbad.out _ _ ((hp'.app' _).set (Nat.le_refl _) _) (by rw [gset (by simp; omega)]) rfl
  · have e : k = l.length := by omega
    subst e
    rw [← olen, List.take_length] at how
    have Hq := Hid.mk (hq hz)
    have Hx := Hid.mk (And.intro how (And.intro hcw (And.intro hp' (And.intro hsame hb'))))
    have Hol := Hid.mk olen
    clear hq how hcw hz hbad hoc olen
    (repeat' (first | (with_reducible refine A1 (fun _ => ?_) (fun _ => ?_) <;> try (exfalso; omega)) | (with_reducible refine A2 (fun _ => ?_) (fun _ => ?_) <;> try (exfalso; omega)) | (with_reducible refine A3 (fun _ => ?_) (fun _ => ?_) <;> try (exfalso; omega)) | refine A4 (fun _ => ?_) (fun _ => ?_) | refine A5 (fun _ => ?_) (fun _ => ?_) | refine A6 (fun _ => ?_) (fun _ => ?_) | simp -dsimp (disch := omega) only [↓EA, EB, Nat.reduceEqDiff, Nat.reduceAdd, Nat.reduceLeDiff, Nat.reduceMul, ↓reduceIte, reduceCtorEq, newCells, bslV, eq_self, *, hl'.len, hl'.ixs, hl'.ld, hl'.ld0, hl'.lda, hl'.ldx, hl'.ldx0, hl'.ldxa]))
    obtain ⟨f1, f2, f3, f4, f5⟩ := Hx.out
    exact Hq.out _ _ vo vc f3 hlen f4 f5 f1 f2 rfl rfl
theorem bound_rng {l : List Task} (hv : validP l) {k : Nat} (hk : k < l.length) : (0 ≤ (boundP l (k : Int)).1 ∧ (boundP l (k : Int)).1 ≤ 4294967296) ∧ 0 ≤ (atI l (k : Int)).J ∧ (atI l (k : Int)).J ≤ 2147483647 := by
  have hokt := (valid_iff.1 hv).2.1 _ (atI_mem (l := l) (i := (k : Int)) (by omega) (by omega))
  have hr := hokt.1
  simp only [rangesB] at hr
  have hisP := valid_isP (i := (k : Int)) hv (by omega) (by omega)
  unfold boundP
  rw [if_pos hisP]
  split
  · rename_i w hw
    obtain ⟨⟨w1, w2⟩, _⟩ := leastP_some hisP hw
    have w3 : mostP l (k : Int) = (atI l (k : Int)).D - (atI l (k : Int)).J := rfl
    dsimp only
    omega
  · dsimp only
    omega
theorem allE_bad {l : List Task} (hv : validP l) (h : ∃ k, k < l.length ∧ (boundP l (k : Int)).2 ≠ 0) : allE l = 16 := by
  unfold allE
  rw [if_pos hv, if_neg fun e => ?_]
  obtain ⟨k, hk, hb⟩ := h
  exact hb ((missN_nil l l.length).1 e k hk)
theorem ref20Make (hE : Laid E) {h : Heap} {vl : Value} {l : List Task} (hl : Rd 7 encT h vl l) (hs : ∀ t ∈ l, t.name.size < 1152921504606846976) {o : List Nat} (hg : validP l → GoodO l o) :
    ∃ v ys, callW E (.func (.func n_ref20_Make) #[] #[]) [vl] h = some (v, h ++ ys, []) ∧ GotP (if allE l = 0 then l else []) (if allE l = 0 then nmO l o else []) (if allE l = 0 then clO l (allR l) l.length else []) (allE l) (h ++ ys) v := by
  refine fn_new hE.ref20_Make rfl (GotP.movable _ _ _ _ _) (by simp) ?_
  have hc := fun x => checkAll04 hE (hl.app x) hs
  have hvl1 := hl.one
  have hvl2 := hl.cv
  simp only [argsF]
  have hvd : validP l ↔ (checkAllP l).2 = 0 := Iff.rfl
  by_cases hv : validP l
  · have hv2 := hvd.1 hv
    have Hv := Hid.mk hv
    have hn := (valid_iff.1 hv).1
    have hvn : vl ≠ .slice none 0 0 := fun e => by have := hl.len; rw [e] at this; simp [lensV] at this; omega
    have hvb := hl.lt' hvn
    have hrng := fun k hk => bound_rng hv (k := k) hk
    have Hg := Hid.mk (hg hv)
    clear hvd hg hv
    rw [hv2] at hc
    (repeat' (first | (with_reducible refine A1 (fun _ => ?_) (fun _ => ?_) <;> try (exfalso; omega)) | (with_reducible refine A2 (fun _ => ?_) (fun _ => ?_) <;> try (exfalso; omega)) | (with_reducible refine A3 (fun _ => ?_) (fun _ => ?_) <;> try (exfalso; omega)) | refine A4 (fun _ => ?_) (fun _ => ?_) | refine A5 (fun _ => ?_) (fun _ => ?_) | refine A6 (fun _ => ?_) (fun _ => ?_) | simp -dsimp (disch := omega) only [↓EA, EB, Nat.reduceEqDiff, Nat.reduceAdd, Nat.reduceLeDiff, Nat.reduceMul, ↓reduceIte, reduceCtorEq, newCells, bslV, eq_self, *]))
    have hlH := hl.app [.cells [.slice none 0 0, .slice none 0 0, .slice none 0 0, .int .i64 0, .int .i64 0] false, .cells [vl, .slice none 0 0, .slice none 0 0] false]
    refine ref_l0 hE (h0 := h) (b := h.length + 1) Hv.out hs hlH (by omega) Hg.out hn.2 (Pre.app h _) (by omega) (by simp) (by rw [geta]; rfl) (fun x hx => hx) hrng rfl rfl rfl rfl (by rw [geta0]; rfl) (by omega) ?_ ?_
    · intro hbad fr' h' p' b' g2
      have hae := allE_bad Hv.out hbad
      rw [hae]
      have Hp := Hid.mk p'
      clear hbad hae
      (repeat' (first | (with_reducible refine A1 (fun _ => ?_) (fun _ => ?_) <;> try (exfalso; omega)) | (with_reducible refine A2 (fun _ => ?_) (fun _ => ?_) <;> try (exfalso; omega)) | (with_reducible refine A3 (fun _ => ?_) (fun _ => ?_) <;> try (exfalso; omega)) | refine A4 (fun _ => ?_) (fun _ => ?_) | refine A5 (fun _ => ?_) (fun _ => ?_) | refine A6 (fun _ => ?_) (fun _ => ?_) | simp -dsimp (disch := omega) only [↓EA, EB, Nat.reduceEqDiff, Nat.reduceAdd, Nat.reduceLeDiff, Nat.reduceMul, ↓reduceIte, reduceCtorEq, newCells, bslV, eq_self, *]))
      exact ⟨Hp.out.ex, _, rfl, .cons Rd.of_nil (.cons Rd.of_nil (.cons Rd.of_nil (.cons rfl (.cons rfl .nil))))⟩
    · intro hz fr' h' vo vc p' l' s' b' w' c' g2 g3
      have hae : allE l = 0 := (allE_zero l).2 ⟨Hv.out, hz⟩
      have har : allR l = rN l l.length := if_pos Hv.out
      rw [hae, har]
      simp only [if_true]
      simp only [List.length_append, List.length_cons, List.length_nil] at l' s' w' c'
      have hw1 := w'.rd.one
      have hw2 := w'.rd.cv
      have hc1 := c'.rd.one
      have hc2 := c'.rd.cv
      have hb2 : h'[h.length]? = some (.cells [.slice none 0 0, .slice none 0 0, .slice none 0 0, .int .i64 0, .int .i64 0] false) := by rw [s' _ (by omega) (by omega), geta0]; rfl
      have V1 : Rd 7 encT (h'.set h.length (.cells [vl, vo, vc, .int .i64 0, .int .i64 0] false)) vl l := hl.keep fun hn => by
        rw [gets (by omega), s' _ (by omega) (by omega), List.getElem?_append_left hvb]
      have V2 : OwnT (h.length + (0 + 1 + 1)) 1 encW (h'.set h.length (.cells [vl, vo, vc, .int .i64 0, .int .i64 0] false)) vo (nmO l o) := w'.keep fun hn => by rw [gets (by have := w'.ge hn; omega)]
      have V3 : OwnT (h.length + (0 + 1 + 1)) 2 encC (h'.set h.length (.cells [vl, vo, vc, .int .i64 0, .int .i64 0] false)) vc (clO l (rN l l.length) l.length) := c'.keep fun hn => by rw [gets (by have := c'.ge hn; omega)]
      have Hf := Hid.mk (And.intro (p'.set (Nat.le_refl _) (.cells [vl, vo, vc, .int .i64 0, .int .i64 0] false)) (And.intro V1 (And.intro V2.rd V3.rd)))
      clear V1 V2 V3 w' c' s' hz hae har hrng hc p'
      (repeat' (first | (with_reducible refine A1 (fun _ => ?_) (fun _ => ?_) <;> try (exfalso; omega)) | (with_reducible refine A2 (fun _ => ?_) (fun _ => ?_) <;> try (exfalso; omega)) | (with_reducible refine A3 (fun _ => ?_) (fun _ => ?_) <;> try (exfalso; omega)) | refine A4 (fun _ => ?_) (fun _ => ?_) | refine A5 (fun _ => ?_) (fun _ => ?_) | refine A6 (fun _ => ?_) (fun _ => ?_) | simp -dsimp (disch := omega) only [↓EA, EB, Nat.reduceEqDiff, Nat.reduceAdd, Nat.reduceLeDiff, Nat.reduceMul, ↓reduceIte, reduceCtorEq, newCells, bslV, eq_self, *]))
      obtain ⟨f1, f2, f3, f4⟩ := Hf.out
      exact ⟨f1.ex, _, rfl, .cons f2 (.cons f3 (.cons f4 (.cons rfl (.cons rfl .nil))))⟩
  · have hv2 : (checkAllP l).2 ≠ 0 := fun e => hv (hvd.2 e)
    have hae : allE l = 1 := if_neg hv
    rw [hae]
    clear hvd hg hv hae
    generalize (checkAllP l).2 = e at *
    generalize (checkAllP l).1 = e1 at *
    (repeat' (first | (with_reducible refine A1 (fun _ => ?_) (fun _ => ?_) <;> try (exfalso; omega)) | (with_reducible refine A2 (fun _ => ?_) (fun _ => ?_) <;> try (exfalso; omega)) | (with_reducible refine A3 (fun _ => ?_) (fun _ => ?_) <;> try (exfalso; omega)) | refine A4 (fun _ => ?_) (fun _ => ?_) | refine A5 (fun _ => ?_) (fun _ => ?_) | refine A6 (fun _ => ?_) (fun _ => ?_) | simp -dsimp (disch := omega) only [↓EA, EB, Nat.reduceEqDiff, Nat.reduceAdd, Nat.reduceLeDiff, Nat.reduceMul, ↓reduceIte, reduceCtorEq, newCells, bslV, eq_self, *]))
    rw [if_neg (by decide), if_neg (by decide), if_neg (by decide)]
    exact ⟨⟨_, rfl⟩, _, rfl, .cons Rd.of_nil (.cons Rd.of_nil (.cons Rd.of_nil (.cons rfl (.cons rfl .nil))))⟩
end Go.L.Try
