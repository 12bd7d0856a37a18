import Derived.Test.YtpgjihkaocahbaaLb0
namespace Go.Lan
open Go.Proofs
def round_sum.k (_ : Prims) (c101 : LExact → Int → LExact) (c101ok : LExact → Int → Bool) (c102 : LExact → Int) (c102ok : LExact → Bool) (c114 : LExact → Int → LExact) (c114ok : LExact → Int → Bool) (c117 : LExact → Bool) (c118 : Int → Int → Int → Int × Int) (c118ok : Int → Int → Int → Bool) (c119 : Int → Int → Int → Int × Int) (c119ok : Int → Int → Int → Bool) (a : LExact) (b : LExact) (k : LExact → R) : R :=
  cond (c117 a)
    (cond (c117 a)
       (k b)
       (cond (c102ok b)
          (let x4 := IntKind.i64.wrap (126 - (c102 b))
           let x5 := c101 b x4
           cond (c101ok b x4)
             (cond (decide (a.e > x5.e))
                (let x7 := IntKind.i64.wrap (a.e - x5.e)
                 let x8 := c101 a x7
                 cond (c101ok a x7)
                   (cond (x5.neg == x8.neg)
                      (let x10 := c118 x5.lo x8.lo 0
                       cond (c118ok x5.lo x8.lo 0)
                         (cond (c118ok x5.hi x8.hi x10.2)
                            (k (⟨x5.neg, (c118 x5.hi x8.hi x10.2).1, x10.1, x5.e, x8.more⟩ : LExact))
                            (none))
                         (none))
                      (cond x8.more
                         (let x12 := c119 x5.lo x8.lo 1
                          cond (c119ok x5.lo x8.lo 1)
                            (let x13 := c119 x5.hi x8.hi x12.2
                             cond (c119ok x5.hi x8.hi x12.2)
                               (cond ((x13.2 : Int) != 0)
                                  (let x16 := c119 0 x12.1 0
                                   cond (c119ok 0 x12.1 0)
                                     (cond (c119ok 0 x13.1 x16.2)
                                        (k (⟨(!x5.neg), (c119 0 x13.1 x16.2).1, x16.1, x5.e, x8.more⟩ : LExact))
                                        (none))
                                     (none))
                                  (k (⟨x5.neg, x13.1, x12.1, x5.e, x8.more⟩ : LExact)))
                               (none))
                            (none))
                         (let x18 := c119 x5.lo x8.lo 0
                          cond (c119ok x5.lo x8.lo 0)
                            (let x19 := c119 x5.hi x8.hi x18.2
                             cond (c119ok x5.hi x8.hi x18.2)
                               (cond ((x19.2 : Int) != 0)
                                  (let x22 := c119 0 x18.1 0
                                   cond (c119ok 0 x18.1 0)
                                     (cond (c119ok 0 x19.1 x22.2)
                                        (k (⟨(!x5.neg), (c119 0 x19.1 x22.2).1, x22.1, x5.e, x8.more⟩ : LExact))
                                        (none))
                                     (none))
                                  (k (⟨x5.neg, x19.1, x18.1, x5.e, x8.more⟩ : LExact)))
                               (none))
                            (none))))
                   (none))
                (let x24 := IntKind.i64.wrap (x5.e - a.e)
                 let x25 := c114 a x24
                 cond (c114ok a x24)
                   (cond (x5.neg == x25.neg)
                      (let x27 := c118 x5.lo x25.lo 0
                       cond (c118ok x5.lo x25.lo 0)
                         (cond (c118ok x5.hi x25.hi x27.2)
                            (k (⟨x5.neg, (c118 x5.hi x25.hi x27.2).1, x27.1, x5.e, x25.more⟩ : LExact))
                            (none))
                         (none))
                      (cond x25.more
                         (let x29 := c119 x5.lo x25.lo 1
                          cond (c119ok x5.lo x25.lo 1)
                            (let x30 := c119 x5.hi x25.hi x29.2
                             cond (c119ok x5.hi x25.hi x29.2)
                               (cond ((x30.2 : Int) != 0)
                                  (let x33 := c119 0 x29.1 0
                                   cond (c119ok 0 x29.1 0)
                                     (cond (c119ok 0 x30.1 x33.2)
                                        (k (⟨(!x5.neg), (c119 0 x30.1 x33.2).1, x33.1, x5.e, x25.more⟩ : LExact))
                                        (none))
                                     (none))
                                  (k (⟨x5.neg, x30.1, x29.1, x5.e, x25.more⟩ : LExact)))
                               (none))
                            (none))
                         (let x35 := c119 x5.lo x25.lo 0
                          cond (c119ok x5.lo x25.lo 0)
                            (let x36 := c119 x5.hi x25.hi x35.2
                             cond (c119ok x5.hi x25.hi x35.2)
                               (cond ((x36.2 : Int) != 0)
                                  (let x39 := c119 0 x35.1 0
                                   cond (c119ok 0 x35.1 0)
                                     (cond (c119ok 0 x36.1 x39.2)
                                        (k (⟨(!x5.neg), (c119 0 x36.1 x39.2).1, x39.1, x5.e, x25.more⟩ : LExact))
                                        (none))
                                     (none))
                                  (k (⟨x5.neg, x36.1, x35.1, x5.e, x25.more⟩ : LExact)))
                               (none))
                            (none))))
                   (none)))
             (none))
          (none)))
    (cond (!(c117 b))
       (cond (c102ok a)
          (cond (c102ok b)
             (cond (decide ((IntKind.i64.wrap (a.e + (c102 a))) < (IntKind.i64.wrap (b.e + (c102 b)))))
                (cond (c117 a)
                   (k b)
                   (cond (c102ok b)
                      (let x50 := IntKind.i64.wrap (126 - (c102 b))
                       let x51 := c101 b x50
                       cond (c101ok b x50)
                         (cond (decide (a.e > x51.e))
                            (let x53 := IntKind.i64.wrap (a.e - x51.e)
                             let x54 := c101 a x53
                             cond (c101ok a x53)
                               (cond (x51.neg == x54.neg)
                                  (let x56 := c118 x51.lo x54.lo 0
                                   cond (c118ok x51.lo x54.lo 0)
                                     (cond (c118ok x51.hi x54.hi x56.2)
                                        (k (⟨x51.neg, (c118 x51.hi x54.hi x56.2).1, x56.1, x51.e, x54.more⟩ : LExact))
                                        (none))
                                     (none))
                                  (cond x54.more
                                     (let x58 := c119 x51.lo x54.lo 1
                                      cond (c119ok x51.lo x54.lo 1)
                                        (let x59 := c119 x51.hi x54.hi x58.2
                                         cond (c119ok x51.hi x54.hi x58.2)
                                           (cond ((x59.2 : Int) != 0)
                                              (let x62 := c119 0 x58.1 0
                                               cond (c119ok 0 x58.1 0)
                                                 (cond (c119ok 0 x59.1 x62.2)
                                                    (k (⟨(!x51.neg), (c119 0 x59.1 x62.2).1, x62.1, x51.e, x54.more⟩ : LExact))
                                                    (none))
                                                 (none))
                                              (k (⟨x51.neg, x59.1, x58.1, x51.e, x54.more⟩ : LExact)))
                                           (none))
                                        (none))
                                     (let x64 := c119 x51.lo x54.lo 0
                                      cond (c119ok x51.lo x54.lo 0)
                                        (let x65 := c119 x51.hi x54.hi x64.2
                                         cond (c119ok x51.hi x54.hi x64.2)
                                           (cond ((x65.2 : Int) != 0)
                                              (let x68 := c119 0 x64.1 0
                                               cond (c119ok 0 x64.1 0)
                                                 (cond (c119ok 0 x65.1 x68.2)
                                                    (k (⟨(!x51.neg), (c119 0 x65.1 x68.2).1, x68.1, x51.e, x54.more⟩ : LExact))
                                                    (none))
                                                 (none))
                                              (k (⟨x51.neg, x65.1, x64.1, x51.e, x54.more⟩ : LExact)))
                                           (none))
                                        (none))))
                               (none))
                            (let x70 := IntKind.i64.wrap (x51.e - a.e)
                             let x71 := c114 a x70
                             cond (c114ok a x70)
                               (cond (x51.neg == x71.neg)
                                  (let x73 := c118 x51.lo x71.lo 0
                                   cond (c118ok x51.lo x71.lo 0)
                                     (cond (c118ok x51.hi x71.hi x73.2)
                                        (k (⟨x51.neg, (c118 x51.hi x71.hi x73.2).1, x73.1, x51.e, x71.more⟩ : LExact))
                                        (none))
                                     (none))
                                  (cond x71.more
                                     (let x75 := c119 x51.lo x71.lo 1
                                      cond (c119ok x51.lo x71.lo 1)
                                        (let x76 := c119 x51.hi x71.hi x75.2
                                         cond (c119ok x51.hi x71.hi x75.2)
                                           (cond ((x76.2 : Int) != 0)
                                              (let x79 := c119 0 x75.1 0
                                               cond (c119ok 0 x75.1 0)
                                                 (cond (c119ok 0 x76.1 x79.2)
                                                    (k (⟨(!x51.neg), (c119 0 x76.1 x79.2).1, x79.1, x51.e, x71.more⟩ : LExact))
                                                    (none))
                                                 (none))
                                              (k (⟨x51.neg, x76.1, x75.1, x51.e, x71.more⟩ : LExact)))
                                           (none))
                                        (none))
                                     (let x81 := c119 x51.lo x71.lo 0
                                      cond (c119ok x51.lo x71.lo 0)
                                        (let x82 := c119 x51.hi x71.hi x81.2
                                         cond (c119ok x51.hi x71.hi x81.2)
                                           (cond ((x82.2 : Int) != 0)
                                              (let x85 := c119 0 x81.1 0
                                               cond (c119ok 0 x81.1 0)
                                                 (cond (c119ok 0 x82.1 x85.2)
                                                    (k (⟨(!x51.neg), (c119 0 x82.1 x85.2).1, x85.1, x51.e, x71.more⟩ : LExact))
                                                    (none))
                                                 (none))
                                              (k (⟨x51.neg, x82.1, x81.1, x51.e, x71.more⟩ : LExact)))
                                           (none))
                                        (none))))
                               (none)))
                         (none))
                      (none)))
                (cond (c117 b)
                   (k a)
                   (cond (c102ok a)
                      (let x89 := IntKind.i64.wrap (126 - (c102 a))
                       let x90 := c101 a x89
                       cond (c101ok a x89)
                         (cond (decide (b.e > x90.e))
                            (let x92 := IntKind.i64.wrap (b.e - x90.e)
                             let x93 := c101 b x92
                             cond (c101ok b x92)
                               (cond (x90.neg == x93.neg)
                                  (let x95 := c118 x90.lo x93.lo 0
                                   cond (c118ok x90.lo x93.lo 0)
                                     (cond (c118ok x90.hi x93.hi x95.2)
                                        (k (⟨x90.neg, (c118 x90.hi x93.hi x95.2).1, x95.1, x90.e, x93.more⟩ : LExact))
                                        (none))
                                     (none))
                                  (cond x93.more
                                     (let x97 := c119 x90.lo x93.lo 1
                                      cond (c119ok x90.lo x93.lo 1)
                                        (let x98 := c119 x90.hi x93.hi x97.2
                                         cond (c119ok x90.hi x93.hi x97.2)
                                           (cond ((x98.2 : Int) != 0)
                                              (let x101 := c119 0 x97.1 0
                                               cond (c119ok 0 x97.1 0)
                                                 (cond (c119ok 0 x98.1 x101.2)
                                                    (k (⟨(!x90.neg), (c119 0 x98.1 x101.2).1, x101.1, x90.e, x93.more⟩ : LExact))
                                                    (none))
                                                 (none))
                                              (k (⟨x90.neg, x98.1, x97.1, x90.e, x93.more⟩ : LExact)))
                                           (none))
                                        (none))
                                     (let x103 := c119 x90.lo x93.lo 0
                                      cond (c119ok x90.lo x93.lo 0)
                                        (let x104 := c119 x90.hi x93.hi x103.2
                                         cond (c119ok x90.hi x93.hi x103.2)
                                           (cond ((x104.2 : Int) != 0)
                                              (let x107 := c119 0 x103.1 0
                                               cond (c119ok 0 x103.1 0)
                                                 (cond (c119ok 0 x104.1 x107.2)
                                                    (k (⟨(!x90.neg), (c119 0 x104.1 x107.2).1, x107.1, x90.e, x93.more⟩ : LExact))
                                                    (none))
                                                 (none))
                                              (k (⟨x90.neg, x104.1, x103.1, x90.e, x93.more⟩ : LExact)))
                                           (none))
                                        (none))))
                               (none))
                            (let x109 := IntKind.i64.wrap (x90.e - b.e)
                             let x110 := c114 b x109
                             cond (c114ok b x109)
                               (cond (x90.neg == x110.neg)
                                  (let x112 := c118 x90.lo x110.lo 0
                                   cond (c118ok x90.lo x110.lo 0)
                                     (cond (c118ok x90.hi x110.hi x112.2)
                                        (k (⟨x90.neg, (c118 x90.hi x110.hi x112.2).1, x112.1, x90.e, x110.more⟩ : LExact))
                                        (none))
                                     (none))
                                  (cond x110.more
                                     (let x114 := c119 x90.lo x110.lo 1
                                      cond (c119ok x90.lo x110.lo 1)
                                        (let x115 := c119 x90.hi x110.hi x114.2
                                         cond (c119ok x90.hi x110.hi x114.2)
                                           (cond ((x115.2 : Int) != 0)
                                              (let x118 := c119 0 x114.1 0
                                               cond (c119ok 0 x114.1 0)
                                                 (cond (c119ok 0 x115.1 x118.2)
                                                    (k (⟨(!x90.neg), (c119 0 x115.1 x118.2).1, x118.1, x90.e, x110.more⟩ : LExact))
                                                    (none))
                                                 (none))
                                              (k (⟨x90.neg, x115.1, x114.1, x90.e, x110.more⟩ : LExact)))
                                           (none))
                                        (none))
                                     (let x120 := c119 x90.lo x110.lo 0
                                      cond (c119ok x90.lo x110.lo 0)
                                        (let x121 := c119 x90.hi x110.hi x120.2
                                         cond (c119ok x90.hi x110.hi x120.2)
                                           (cond ((x121.2 : Int) != 0)
                                              (let x124 := c119 0 x120.1 0
                                               cond (c119ok 0 x120.1 0)
                                                 (cond (c119ok 0 x121.1 x124.2)
                                                    (k (⟨(!x90.neg), (c119 0 x121.1 x124.2).1, x124.1, x90.e, x110.more⟩ : LExact))
                                                    (none))
                                                 (none))
                                              (k (⟨x90.neg, x121.1, x120.1, x90.e, x110.more⟩ : LExact)))
                                           (none))
                                        (none))))
                               (none)))
                         (none))
                      (none))))
             (none))
          (none))
       (cond (c117 b)
          (k a)
          (cond (c102ok a)
             (let x128 := IntKind.i64.wrap (126 - (c102 a))
              let x129 := c101 a x128
              cond (c101ok a x128)
                (cond (decide (b.e > x129.e))
                   (let x131 := IntKind.i64.wrap (b.e - x129.e)
                    let x132 := c101 b x131
                    cond (c101ok b x131)
                      (cond (x129.neg == x132.neg)
                         (let x134 := c118 x129.lo x132.lo 0
                          cond (c118ok x129.lo x132.lo 0)
                            (cond (c118ok x129.hi x132.hi x134.2)
                               (k (⟨x129.neg, (c118 x129.hi x132.hi x134.2).1, x134.1, x129.e, x132.more⟩ : LExact))
                               (none))
                            (none))
                         (cond x132.more
                            (let x136 := c119 x129.lo x132.lo 1
                             cond (c119ok x129.lo x132.lo 1)
                               (let x137 := c119 x129.hi x132.hi x136.2
                                cond (c119ok x129.hi x132.hi x136.2)
                                  (cond ((x137.2 : Int) != 0)
                                     (let x140 := c119 0 x136.1 0
                                      cond (c119ok 0 x136.1 0)
                                        (cond (c119ok 0 x137.1 x140.2)
                                           (k (⟨(!x129.neg), (c119 0 x137.1 x140.2).1, x140.1, x129.e, x132.more⟩ : LExact))
                                           (none))
                                        (none))
                                     (k (⟨x129.neg, x137.1, x136.1, x129.e, x132.more⟩ : LExact)))
                                  (none))
                               (none))
                            (let x142 := c119 x129.lo x132.lo 0
                             cond (c119ok x129.lo x132.lo 0)
                               (let x143 := c119 x129.hi x132.hi x142.2
                                cond (c119ok x129.hi x132.hi x142.2)
                                  (cond ((x143.2 : Int) != 0)
                                     (let x146 := c119 0 x142.1 0
                                      cond (c119ok 0 x142.1 0)
                                        (cond (c119ok 0 x143.1 x146.2)
                                           (k (⟨(!x129.neg), (c119 0 x143.1 x146.2).1, x146.1, x129.e, x132.more⟩ : LExact))
                                           (none))
                                        (none))
                                     (k (⟨x129.neg, x143.1, x142.1, x129.e, x132.more⟩ : LExact)))
                                  (none))
                               (none))))
                      (none))
                   (let x148 := IntKind.i64.wrap (x129.e - b.e)
                    let x149 := c114 b x148
                    cond (c114ok b x148)
                      (cond (x129.neg == x149.neg)
                         (let x151 := c118 x129.lo x149.lo 0
                          cond (c118ok x129.lo x149.lo 0)
                            (cond (c118ok x129.hi x149.hi x151.2)
                               (k (⟨x129.neg, (c118 x129.hi x149.hi x151.2).1, x151.1, x129.e, x149.more⟩ : LExact))
                               (none))
                            (none))
                         (cond x149.more
                            (let x153 := c119 x129.lo x149.lo 1
                             cond (c119ok x129.lo x149.lo 1)
                               (let x154 := c119 x129.hi x149.hi x153.2
                                cond (c119ok x129.hi x149.hi x153.2)
                                  (cond ((x154.2 : Int) != 0)
                                     (let x157 := c119 0 x153.1 0
                                      cond (c119ok 0 x153.1 0)
                                        (cond (c119ok 0 x154.1 x157.2)
                                           (k (⟨(!x129.neg), (c119 0 x154.1 x157.2).1, x157.1, x129.e, x149.more⟩ : LExact))
                                           (none))
                                        (none))
                                     (k (⟨x129.neg, x154.1, x153.1, x129.e, x149.more⟩ : LExact)))
                                  (none))
                               (none))
                            (let x159 := c119 x129.lo x149.lo 0
                             cond (c119ok x129.lo x149.lo 0)
                               (let x160 := c119 x129.hi x149.hi x159.2
                                cond (c119ok x129.hi x149.hi x159.2)
                                  (cond ((x160.2 : Int) != 0)
                                     (let x163 := c119 0 x159.1 0
                                      cond (c119ok 0 x159.1 0)
                                        (cond (c119ok 0 x160.1 x163.2)
                                           (k (⟨(!x129.neg), (c119 0 x160.1 x163.2).1, x163.1, x129.e, x149.more⟩ : LExact))
                                           (none))
                                        (none))
                                     (k (⟨x129.neg, x160.1, x159.1, x129.e, x149.more⟩ : LExact)))
                                  (none))
                               (none))))
                      (none)))
                (none))
             (none))))
def round_sum (M : Prims) (a : LExact) (b : LExact) : LExact :=
  cond (round_exact_zero M a)
    (cond (round_exact_zero M a)
       (b)
       (let x5 := round_exact_left M b (IntKind.i64.wrap (126 - (round_exact_length M b)))
        cond (decide (a.e > x5.e))
          (let x8 := round_exact_left M a (IntKind.i64.wrap (a.e - x5.e))
           cond (x5.neg == x8.neg)
             (let x10 := add64 x5.lo x8.lo 0
              (⟨x5.neg, (add64 x5.hi x8.hi x10.2).1, x10.1, x5.e, x8.more⟩ : LExact))
             (cond x8.more
                (let x12 := sub64 x5.lo x8.lo 1
                 let x13 := sub64 x5.hi x8.hi x12.2
                 cond ((x13.2 : Int) != 0)
                   (let x16 := sub64 0 x12.1 0
                    (⟨(!x5.neg), (sub64 0 x13.1 x16.2).1, x16.1, x5.e, x8.more⟩ : LExact))
                   ((⟨x5.neg, x13.1, x12.1, x5.e, x8.more⟩ : LExact)))
                (let x18 := sub64 x5.lo x8.lo 0
                 let x19 := sub64 x5.hi x8.hi x18.2
                 cond ((x19.2 : Int) != 0)
                   (let x22 := sub64 0 x18.1 0
                    (⟨(!x5.neg), (sub64 0 x19.1 x22.2).1, x22.1, x5.e, x8.more⟩ : LExact))
                   ((⟨x5.neg, x19.1, x18.1, x5.e, x8.more⟩ : LExact)))))
          (let x25 := round_exact_right M a (IntKind.i64.wrap (x5.e - a.e))
           cond (x5.neg == x25.neg)
             (let x27 := add64 x5.lo x25.lo 0
              (⟨x5.neg, (add64 x5.hi x25.hi x27.2).1, x27.1, x5.e, x25.more⟩ : LExact))
             (cond x25.more
                (let x29 := sub64 x5.lo x25.lo 1
                 let x30 := sub64 x5.hi x25.hi x29.2
                 cond ((x30.2 : Int) != 0)
                   (let x33 := sub64 0 x29.1 0
                    (⟨(!x5.neg), (sub64 0 x30.1 x33.2).1, x33.1, x5.e, x25.more⟩ : LExact))
                   ((⟨x5.neg, x30.1, x29.1, x5.e, x25.more⟩ : LExact)))
                (let x35 := sub64 x5.lo x25.lo 0
                 let x36 := sub64 x5.hi x25.hi x35.2
                 cond ((x36.2 : Int) != 0)
                   (let x39 := sub64 0 x35.1 0
                    (⟨(!x5.neg), (sub64 0 x36.1 x39.2).1, x39.1, x5.e, x25.more⟩ : LExact))
                   ((⟨x5.neg, x36.1, x35.1, x5.e, x25.more⟩ : LExact)))))))
    (cond (!(round_exact_zero M b))
       (cond (decide ((IntKind.i64.wrap (a.e + (round_exact_length M a))) < (IntKind.i64.wrap (b.e + (round_exact_length M b)))))
          (cond (round_exact_zero M a)
             (b)
             (let x51 := round_exact_left M b (IntKind.i64.wrap (126 - (round_exact_length M b)))
              cond (decide (a.e > x51.e))
                (let x54 := round_exact_left M a (IntKind.i64.wrap (a.e - x51.e))
                 cond (x51.neg == x54.neg)
                   (let x56 := add64 x51.lo x54.lo 0
                    (⟨x51.neg, (add64 x51.hi x54.hi x56.2).1, x56.1, x51.e, x54.more⟩ : LExact))
                   (cond x54.more
                      (let x58 := sub64 x51.lo x54.lo 1
                       let x59 := sub64 x51.hi x54.hi x58.2
                       cond ((x59.2 : Int) != 0)
                         (let x62 := sub64 0 x58.1 0
                          (⟨(!x51.neg), (sub64 0 x59.1 x62.2).1, x62.1, x51.e, x54.more⟩ : LExact))
                         ((⟨x51.neg, x59.1, x58.1, x51.e, x54.more⟩ : LExact)))
                      (let x64 := sub64 x51.lo x54.lo 0
                       let x65 := sub64 x51.hi x54.hi x64.2
                       cond ((x65.2 : Int) != 0)
                         (let x68 := sub64 0 x64.1 0
                          (⟨(!x51.neg), (sub64 0 x65.1 x68.2).1, x68.1, x51.e, x54.more⟩ : LExact))
                         ((⟨x51.neg, x65.1, x64.1, x51.e, x54.more⟩ : LExact)))))
                (let x71 := round_exact_right M a (IntKind.i64.wrap (x51.e - a.e))
                 cond (x51.neg == x71.neg)
                   (let x73 := add64 x51.lo x71.lo 0
                    (⟨x51.neg, (add64 x51.hi x71.hi x73.2).1, x73.1, x51.e, x71.more⟩ : LExact))
                   (cond x71.more
                      (let x75 := sub64 x51.lo x71.lo 1
                       let x76 := sub64 x51.hi x71.hi x75.2
                       cond ((x76.2 : Int) != 0)
                         (let x79 := sub64 0 x75.1 0
                          (⟨(!x51.neg), (sub64 0 x76.1 x79.2).1, x79.1, x51.e, x71.more⟩ : LExact))
                         ((⟨x51.neg, x76.1, x75.1, x51.e, x71.more⟩ : LExact)))
                      (let x81 := sub64 x51.lo x71.lo 0
                       let x82 := sub64 x51.hi x71.hi x81.2
                       cond ((x82.2 : Int) != 0)
                         (let x85 := sub64 0 x81.1 0
                          (⟨(!x51.neg), (sub64 0 x82.1 x85.2).1, x85.1, x51.e, x71.more⟩ : LExact))
                         ((⟨x51.neg, x82.1, x81.1, x51.e, x71.more⟩ : LExact)))))))
          (cond (round_exact_zero M b)
             (a)
             (let x90 := round_exact_left M a (IntKind.i64.wrap (126 - (round_exact_length M a)))
              cond (decide (b.e > x90.e))
                (let x93 := round_exact_left M b (IntKind.i64.wrap (b.e - x90.e))
                 cond (x90.neg == x93.neg)
                   (let x95 := add64 x90.lo x93.lo 0
                    (⟨x90.neg, (add64 x90.hi x93.hi x95.2).1, x95.1, x90.e, x93.more⟩ : LExact))
                   (cond x93.more
                      (let x97 := sub64 x90.lo x93.lo 1
                       let x98 := sub64 x90.hi x93.hi x97.2
                       cond ((x98.2 : Int) != 0)
                         (let x101 := sub64 0 x97.1 0
                          (⟨(!x90.neg), (sub64 0 x98.1 x101.2).1, x101.1, x90.e, x93.more⟩ : LExact))
                         ((⟨x90.neg, x98.1, x97.1, x90.e, x93.more⟩ : LExact)))
                      (let x103 := sub64 x90.lo x93.lo 0
                       let x104 := sub64 x90.hi x93.hi x103.2
                       cond ((x104.2 : Int) != 0)
                         (let x107 := sub64 0 x103.1 0
                          (⟨(!x90.neg), (sub64 0 x104.1 x107.2).1, x107.1, x90.e, x93.more⟩ : LExact))
                         ((⟨x90.neg, x104.1, x103.1, x90.e, x93.more⟩ : LExact)))))
                (let x110 := round_exact_right M b (IntKind.i64.wrap (x90.e - b.e))
                 cond (x90.neg == x110.neg)
                   (let x112 := add64 x90.lo x110.lo 0
                    (⟨x90.neg, (add64 x90.hi x110.hi x112.2).1, x112.1, x90.e, x110.more⟩ : LExact))
                   (cond x110.more
                      (let x114 := sub64 x90.lo x110.lo 1
                       let x115 := sub64 x90.hi x110.hi x114.2
                       cond ((x115.2 : Int) != 0)
                         (let x118 := sub64 0 x114.1 0
                          (⟨(!x90.neg), (sub64 0 x115.1 x118.2).1, x118.1, x90.e, x110.more⟩ : LExact))
                         ((⟨x90.neg, x115.1, x114.1, x90.e, x110.more⟩ : LExact)))
                      (let x120 := sub64 x90.lo x110.lo 0
                       let x121 := sub64 x90.hi x110.hi x120.2
                       cond ((x121.2 : Int) != 0)
                         (let x124 := sub64 0 x120.1 0
                          (⟨(!x90.neg), (sub64 0 x121.1 x124.2).1, x124.1, x90.e, x110.more⟩ : LExact))
                         ((⟨x90.neg, x121.1, x120.1, x90.e, x110.more⟩ : LExact))))))))
       (cond (round_exact_zero M b)
          (a)
          (let x129 := round_exact_left M a (IntKind.i64.wrap (126 - (round_exact_length M a)))
           cond (decide (b.e > x129.e))
             (let x132 := round_exact_left M b (IntKind.i64.wrap (b.e - x129.e))
              cond (x129.neg == x132.neg)
                (let x134 := add64 x129.lo x132.lo 0
                 (⟨x129.neg, (add64 x129.hi x132.hi x134.2).1, x134.1, x129.e, x132.more⟩ : LExact))
                (cond x132.more
                   (let x136 := sub64 x129.lo x132.lo 1
                    let x137 := sub64 x129.hi x132.hi x136.2
                    cond ((x137.2 : Int) != 0)
                      (let x140 := sub64 0 x136.1 0
                       (⟨(!x129.neg), (sub64 0 x137.1 x140.2).1, x140.1, x129.e, x132.more⟩ : LExact))
                      ((⟨x129.neg, x137.1, x136.1, x129.e, x132.more⟩ : LExact)))
                   (let x142 := sub64 x129.lo x132.lo 0
                    let x143 := sub64 x129.hi x132.hi x142.2
                    cond ((x143.2 : Int) != 0)
                      (let x146 := sub64 0 x142.1 0
                       (⟨(!x129.neg), (sub64 0 x143.1 x146.2).1, x146.1, x129.e, x132.more⟩ : LExact))
                      ((⟨x129.neg, x143.1, x142.1, x129.e, x132.more⟩ : LExact)))))
             (let x149 := round_exact_right M b (IntKind.i64.wrap (x129.e - b.e))
              cond (x129.neg == x149.neg)
                (let x151 := add64 x129.lo x149.lo 0
                 (⟨x129.neg, (add64 x129.hi x149.hi x151.2).1, x151.1, x129.e, x149.more⟩ : LExact))
                (cond x149.more
                   (let x153 := sub64 x129.lo x149.lo 1
                    let x154 := sub64 x129.hi x149.hi x153.2
                    cond ((x154.2 : Int) != 0)
                      (let x157 := sub64 0 x153.1 0
                       (⟨(!x129.neg), (sub64 0 x154.1 x157.2).1, x157.1, x129.e, x149.more⟩ : LExact))
                      ((⟨x129.neg, x154.1, x153.1, x129.e, x149.more⟩ : LExact)))
                   (let x159 := sub64 x129.lo x149.lo 0
                    let x160 := sub64 x129.hi x149.hi x159.2
                    cond ((x160.2 : Int) != 0)
                      (let x163 := sub64 0 x159.1 0
                       (⟨(!x129.neg), (sub64 0 x160.1 x163.2).1, x163.1, x129.e, x149.more⟩ : LExact))
                      ((⟨x129.neg, x160.1, x159.1, x129.e, x149.more⟩ : LExact))))))))
def round_sum.ok (M : Prims) (a : LExact) (b : LExact) : Bool :=
  cond (round_exact_zero M a)
    (cond (round_exact_zero M a)
       (true)
       (cond (round_exact_length.ok M b)
          (let x4 := IntKind.i64.wrap (126 - (round_exact_length M b))
           let x5 := round_exact_left M b x4
           cond (round_exact_left.ok M b x4)
             (cond (decide (a.e > x5.e))
                (let x7 := IntKind.i64.wrap (a.e - x5.e)
                 let x8 := round_exact_left M a x7
                 cond (round_exact_left.ok M a x7)
                   (cond (x5.neg == x8.neg)
                      (cond (add64.ok x5.lo x8.lo 0)
                         (cond (add64.ok x5.hi x8.hi (add64 x5.lo x8.lo 0).2)
                            (true)
                            (false))
                         (false))
                      (cond x8.more
                         (let x12 := sub64 x5.lo x8.lo 1
                          cond (sub64.ok x5.lo x8.lo 1)
                            (let x13 := sub64 x5.hi x8.hi x12.2
                             cond (sub64.ok x5.hi x8.hi x12.2)
                               (cond ((x13.2 : Int) != 0)
                                  (cond (sub64.ok 0 x12.1 0)
                                     (cond (sub64.ok 0 x13.1 (sub64 0 x12.1 0).2)
                                        (true)
                                        (false))
                                     (false))
                                  (true))
                               (false))
                            (false))
                         (let x18 := sub64 x5.lo x8.lo 0
                          cond (sub64.ok x5.lo x8.lo 0)
                            (let x19 := sub64 x5.hi x8.hi x18.2
                             cond (sub64.ok x5.hi x8.hi x18.2)
                               (cond ((x19.2 : Int) != 0)
                                  (cond (sub64.ok 0 x18.1 0)
                                     (cond (sub64.ok 0 x19.1 (sub64 0 x18.1 0).2)
                                        (true)
                                        (false))
                                     (false))
                                  (true))
                               (false))
                            (false))))
                   (false))
                (let x24 := IntKind.i64.wrap (x5.e - a.e)
                 let x25 := round_exact_right M a x24
                 cond (round_exact_right.ok M a x24)
                   (cond (x5.neg == x25.neg)
                      (cond (add64.ok x5.lo x25.lo 0)
                         (cond (add64.ok x5.hi x25.hi (add64 x5.lo x25.lo 0).2)
                            (true)
                            (false))
                         (false))
                      (cond x25.more
                         (let x29 := sub64 x5.lo x25.lo 1
                          cond (sub64.ok x5.lo x25.lo 1)
                            (let x30 := sub64 x5.hi x25.hi x29.2
                             cond (sub64.ok x5.hi x25.hi x29.2)
                               (cond ((x30.2 : Int) != 0)
                                  (cond (sub64.ok 0 x29.1 0)
                                     (cond (sub64.ok 0 x30.1 (sub64 0 x29.1 0).2)
                                        (true)
                                        (false))
                                     (false))
                                  (true))
                               (false))
                            (false))
                         (let x35 := sub64 x5.lo x25.lo 0
                          cond (sub64.ok x5.lo x25.lo 0)
                            (let x36 := sub64 x5.hi x25.hi x35.2
                             cond (sub64.ok x5.hi x25.hi x35.2)
                               (cond ((x36.2 : Int) != 0)
                                  (cond (sub64.ok 0 x35.1 0)
                                     (cond (sub64.ok 0 x36.1 (sub64 0 x35.1 0).2)
                                        (true)
                                        (false))
                                     (false))
                                  (true))
                               (false))
                            (false))))
                   (false)))
             (false))
          (false)))
    (cond (!(round_exact_zero M b))
       (cond (round_exact_length.ok M a)
          (cond (round_exact_length.ok M b)
             (cond (decide ((IntKind.i64.wrap (a.e + (round_exact_length M a))) < (IntKind.i64.wrap (b.e + (round_exact_length M b)))))
                (cond (round_exact_zero M a)
                   (true)
                   (cond (round_exact_length.ok M b)
                      (let x50 := IntKind.i64.wrap (126 - (round_exact_length M b))
                       let x51 := round_exact_left M b x50
                       cond (round_exact_left.ok M b x50)
                         (cond (decide (a.e > x51.e))
                            (let x53 := IntKind.i64.wrap (a.e - x51.e)
                             let x54 := round_exact_left M a x53
                             cond (round_exact_left.ok M a x53)
                               (cond (x51.neg == x54.neg)
                                  (cond (add64.ok x51.lo x54.lo 0)
                                     (cond (add64.ok x51.hi x54.hi (add64 x51.lo x54.lo 0).2)
                                        (true)
                                        (false))
                                     (false))
                                  (cond x54.more
                                     (let x58 := sub64 x51.lo x54.lo 1
                                      cond (sub64.ok x51.lo x54.lo 1)
                                        (let x59 := sub64 x51.hi x54.hi x58.2
                                         cond (sub64.ok x51.hi x54.hi x58.2)
                                           (cond ((x59.2 : Int) != 0)
                                              (cond (sub64.ok 0 x58.1 0)
                                                 (cond (sub64.ok 0 x59.1 (sub64 0 x58.1 0).2)
                                                    (true)
                                                    (false))
                                                 (false))
                                              (true))
                                           (false))
                                        (false))
                                     (let x64 := sub64 x51.lo x54.lo 0
                                      cond (sub64.ok x51.lo x54.lo 0)
                                        (let x65 := sub64 x51.hi x54.hi x64.2
                                         cond (sub64.ok x51.hi x54.hi x64.2)
                                           (cond ((x65.2 : Int) != 0)
                                              (cond (sub64.ok 0 x64.1 0)
                                                 (cond (sub64.ok 0 x65.1 (sub64 0 x64.1 0).2)
                                                    (true)
                                                    (false))
                                                 (false))
                                              (true))
                                           (false))
                                        (false))))
                               (false))
                            (let x70 := IntKind.i64.wrap (x51.e - a.e)
                             let x71 := round_exact_right M a x70
                             cond (round_exact_right.ok M a x70)
                               (cond (x51.neg == x71.neg)
                                  (cond (add64.ok x51.lo x71.lo 0)
                                     (cond (add64.ok x51.hi x71.hi (add64 x51.lo x71.lo 0).2)
                                        (true)
                                        (false))
                                     (false))
                                  (cond x71.more
                                     (let x75 := sub64 x51.lo x71.lo 1
                                      cond (sub64.ok x51.lo x71.lo 1)
                                        (let x76 := sub64 x51.hi x71.hi x75.2
                                         cond (sub64.ok x51.hi x71.hi x75.2)
                                           (cond ((x76.2 : Int) != 0)
                                              (cond (sub64.ok 0 x75.1 0)
                                                 (cond (sub64.ok 0 x76.1 (sub64 0 x75.1 0).2)
                                                    (true)
                                                    (false))
                                                 (false))
                                              (true))
                                           (false))
                                        (false))
                                     (let x81 := sub64 x51.lo x71.lo 0
                                      cond (sub64.ok x51.lo x71.lo 0)
                                        (let x82 := sub64 x51.hi x71.hi x81.2
                                         cond (sub64.ok x51.hi x71.hi x81.2)
                                           (cond ((x82.2 : Int) != 0)
                                              (cond (sub64.ok 0 x81.1 0)
                                                 (cond (sub64.ok 0 x82.1 (sub64 0 x81.1 0).2)
                                                    (true)
                                                    (false))
                                                 (false))
                                              (true))
                                           (false))
                                        (false))))
                               (false)))
                         (false))
                      (false)))
                (cond (round_exact_zero M b)
                   (true)
                   (cond (round_exact_length.ok M a)
                      (let x89 := IntKind.i64.wrap (126 - (round_exact_length M a))
                       let x90 := round_exact_left M a x89
                       cond (round_exact_left.ok M a x89)
                         (cond (decide (b.e > x90.e))
                            (let x92 := IntKind.i64.wrap (b.e - x90.e)
                             let x93 := round_exact_left M b x92
                             cond (round_exact_left.ok M b x92)
                               (cond (x90.neg == x93.neg)
                                  (cond (add64.ok x90.lo x93.lo 0)
                                     (cond (add64.ok x90.hi x93.hi (add64 x90.lo x93.lo 0).2)
                                        (true)
                                        (false))
                                     (false))
                                  (cond x93.more
                                     (let x97 := sub64 x90.lo x93.lo 1
                                      cond (sub64.ok x90.lo x93.lo 1)
                                        (let x98 := sub64 x90.hi x93.hi x97.2
                                         cond (sub64.ok x90.hi x93.hi x97.2)
                                           (cond ((x98.2 : Int) != 0)
                                              (cond (sub64.ok 0 x97.1 0)
                                                 (cond (sub64.ok 0 x98.1 (sub64 0 x97.1 0).2)
                                                    (true)
                                                    (false))
                                                 (false))
                                              (true))
                                           (false))
                                        (false))
                                     (let x103 := sub64 x90.lo x93.lo 0
                                      cond (sub64.ok x90.lo x93.lo 0)
                                        (let x104 := sub64 x90.hi x93.hi x103.2
                                         cond (sub64.ok x90.hi x93.hi x103.2)
                                           (cond ((x104.2 : Int) != 0)
                                              (cond (sub64.ok 0 x103.1 0)
                                                 (cond (sub64.ok 0 x104.1 (sub64 0 x103.1 0).2)
                                                    (true)
                                                    (false))
                                                 (false))
                                              (true))
                                           (false))
                                        (false))))
                               (false))
                            (let x109 := IntKind.i64.wrap (x90.e - b.e)
                             let x110 := round_exact_right M b x109
                             cond (round_exact_right.ok M b x109)
                               (cond (x90.neg == x110.neg)
                                  (cond (add64.ok x90.lo x110.lo 0)
                                     (cond (add64.ok x90.hi x110.hi (add64 x90.lo x110.lo 0).2)
                                        (true)
                                        (false))
                                     (false))
                                  (cond x110.more
                                     (let x114 := sub64 x90.lo x110.lo 1
                                      cond (sub64.ok x90.lo x110.lo 1)
                                        (let x115 := sub64 x90.hi x110.hi x114.2
                                         cond (sub64.ok x90.hi x110.hi x114.2)
                                           (cond ((x115.2 : Int) != 0)
                                              (cond (sub64.ok 0 x114.1 0)
                                                 (cond (sub64.ok 0 x115.1 (sub64 0 x114.1 0).2)
                                                    (true)
                                                    (false))
                                                 (false))
                                              (true))
                                           (false))
                                        (false))
                                     (let x120 := sub64 x90.lo x110.lo 0
                                      cond (sub64.ok x90.lo x110.lo 0)
                                        (let x121 := sub64 x90.hi x110.hi x120.2
                                         cond (sub64.ok x90.hi x110.hi x120.2)
                                           (cond ((x121.2 : Int) != 0)
                                              (cond (sub64.ok 0 x120.1 0)
                                                 (cond (sub64.ok 0 x121.1 (sub64 0 x120.1 0).2)
                                                    (true)
                                                    (false))
                                                 (false))
                                              (true))
                                           (false))
                                        (false))))
                               (false)))
                         (false))
                      (false))))
             (false))
          (false))
       (cond (round_exact_zero M b)
          (true)
          (cond (round_exact_length.ok M a)
             (let x128 := IntKind.i64.wrap (126 - (round_exact_length M a))
              let x129 := round_exact_left M a x128
              cond (round_exact_left.ok M a x128)
                (cond (decide (b.e > x129.e))
                   (let x131 := IntKind.i64.wrap (b.e - x129.e)
                    let x132 := round_exact_left M b x131
                    cond (round_exact_left.ok M b x131)
                      (cond (x129.neg == x132.neg)
                         (cond (add64.ok x129.lo x132.lo 0)
                            (cond (add64.ok x129.hi x132.hi (add64 x129.lo x132.lo 0).2)
                               (true)
                               (false))
                            (false))
                         (cond x132.more
                            (let x136 := sub64 x129.lo x132.lo 1
                             cond (sub64.ok x129.lo x132.lo 1)
                               (let x137 := sub64 x129.hi x132.hi x136.2
                                cond (sub64.ok x129.hi x132.hi x136.2)
                                  (cond ((x137.2 : Int) != 0)
                                     (cond (sub64.ok 0 x136.1 0)
                                        (cond (sub64.ok 0 x137.1 (sub64 0 x136.1 0).2)
                                           (true)
                                           (false))
                                        (false))
                                     (true))
                                  (false))
                               (false))
                            (let x142 := sub64 x129.lo x132.lo 0
                             cond (sub64.ok x129.lo x132.lo 0)
                               (let x143 := sub64 x129.hi x132.hi x142.2
                                cond (sub64.ok x129.hi x132.hi x142.2)
                                  (cond ((x143.2 : Int) != 0)
                                     (cond (sub64.ok 0 x142.1 0)
                                        (cond (sub64.ok 0 x143.1 (sub64 0 x142.1 0).2)
                                           (true)
                                           (false))
                                        (false))
                                     (true))
                                  (false))
                               (false))))
                      (false))
                   (let x148 := IntKind.i64.wrap (x129.e - b.e)
                    let x149 := round_exact_right M b x148
                    cond (round_exact_right.ok M b x148)
                      (cond (x129.neg == x149.neg)
                         (cond (add64.ok x129.lo x149.lo 0)
                            (cond (add64.ok x129.hi x149.hi (add64 x129.lo x149.lo 0).2)
                               (true)
                               (false))
                            (false))
                         (cond x149.more
                            (let x153 := sub64 x129.lo x149.lo 1
                             cond (sub64.ok x129.lo x149.lo 1)
                               (let x154 := sub64 x129.hi x149.hi x153.2
                                cond (sub64.ok x129.hi x149.hi x153.2)
                                  (cond ((x154.2 : Int) != 0)
                                     (cond (sub64.ok 0 x153.1 0)
                                        (cond (sub64.ok 0 x154.1 (sub64 0 x153.1 0).2)
                                           (true)
                                           (false))
                                        (false))
                                     (true))
                                  (false))
                               (false))
                            (let x159 := sub64 x129.lo x149.lo 0
                             cond (sub64.ok x129.lo x149.lo 0)
                               (let x160 := sub64 x129.hi x149.hi x159.2
                                cond (sub64.ok x129.hi x149.hi x159.2)
                                  (cond ((x160.2 : Int) != 0)
                                     (cond (sub64.ok 0 x159.1 0)
                                        (cond (sub64.ok 0 x160.1 (sub64 0 x159.1 0).2)
                                           (true)
                                           (false))
                                        (false))
                                     (true))
                                  (false))
                               (false))))
                      (false)))
                (false))
             (false))))
def round_sum.fns (c101 : LExact → Int → LExact) (c101ok : LExact → Int → Bool) (c102 : LExact → Int) (c102ok : LExact → Bool) (c114 : LExact → Int → LExact) (c114ok : LExact → Int → Bool) (c117 : LExact → Bool) (c118 : Int → Int → Int → Int × Int) (c118ok : Int → Int → Int → Bool) (c119 : Int → Int → Int → Int × Int) (c119ok : Int → Int → Int → Bool) : FuncId → List Value → Option (Bool × Value) := ifId 101 (round_exact_left.ph c101 c101ok) <| ifId 102 (round_exact_length.ph c102 c102ok) <| ifId 114 (round_exact_right.ph c114 c114ok) <| ifId 117 (round_exact_zero.ph c117) <| ifId 118 (add64.ph c118 c118ok) <| ifId 119 (sub64.ph c119 c119ok) <| noFns
theorem round_sum.fnsOK : PureFns Try.prog (round_sum.fns (round_exact_left M0) (round_exact_left.ok M0) (round_exact_length M0) (round_exact_length.ok M0) (round_exact_right M0) (round_exact_right.ok M0) (round_exact_zero M0) add64 add64.ok sub64 sub64.ok) := ifIdOK round_exact_left.phOK <| ifIdOK round_exact_length.phOK <| ifIdOK round_exact_right.phOK <| ifIdOK round_exact_zero.phOK <| ifIdOK add64.phOK <| ifIdOK sub64.phOK <| noFnsOK
theorem round_sum.ev (M : Prims) (c101 : LExact → Int → LExact) (c101ok : LExact → Int → Bool) (c102 : LExact → Int) (c102ok : LExact → Bool) (c114 : LExact → Int → LExact) (c114ok : LExact → Int → Bool) (c117 : LExact → Bool) (c118 : Int → Int → Int → Int × Int) (c118ok : Int → Int → Int → Bool) (c119 : Int → Int → Int → Int × Int) (c119ok : Int → Int → Int → Bool)  (a : LExact) (b : LExact) : evP tab M (round_sum.fns c101 c101ok c102 c102ok c114 c114ok c117 c118 c118ok c119 c119ok) noLoops 300 Try.f107 [a.val, b.val] = round_sum.k M c101 c101ok c102 c102ok c114 c114ok c117 c118 c118ok c119 c119ok  a b (fun r => some (r.val, [])) := by kernel_rfl
theorem round_sum.k_eq (M : Prims) (a : LExact) (b : LExact) (k : LExact → R) : round_sum.ok M a b = true → round_sum.k M (round_exact_left M) (round_exact_left.ok M) (round_exact_length M) (round_exact_length.ok M) (round_exact_right M) (round_exact_right.ok M) (round_exact_zero M) add64 add64.ok sub64 sub64.ok a b k = k (round_sum M a b) := by
  unfold round_sum.ok round_sum.k round_sum
  exact kC (kC (fun _ => rfl) (kL (kL (kC (kL (kC (kL (kL (fun _ => rfl))) (kC (kL (kL (kC (kL (kL (fun _ => rfl))) (fun _ => rfl)))) (kL (kL (kC (kL (kL (fun _ => rfl))) (fun _ => rfl))))))) (kL (kC (kL (kL (fun _ => rfl))) (kC (kL (kL (kC (kL (kL (fun _ => rfl))) (fun _ => rfl)))) (kL (kL (kC (kL (kL (fun _ => rfl))) (fun _ => rfl))))))))))) (kC (kL (kL (kC (kC (fun _ => rfl) (kL (kL (kC (kL (kC (kL (kL (fun _ => rfl))) (kC (kL (kL (kC (kL (kL (fun _ => rfl))) (fun _ => rfl)))) (kL (kL (kC (kL (kL (fun _ => rfl))) (fun _ => rfl))))))) (kL (kC (kL (kL (fun _ => rfl))) (kC (kL (kL (kC (kL (kL (fun _ => rfl))) (fun _ => rfl)))) (kL (kL (kC (kL (kL (fun _ => rfl))) (fun _ => rfl))))))))))) (kC (fun _ => rfl) (kL (kL (kC (kL (kC (kL (kL (fun _ => rfl))) (kC (kL (kL (kC (kL (kL (fun _ => rfl))) (fun _ => rfl)))) (kL (kL (kC (kL (kL (fun _ => rfl))) (fun _ => rfl))))))) (kL (kC (kL (kL (fun _ => rfl))) (kC (kL (kL (kC (kL (kL (fun _ => rfl))) (fun _ => rfl)))) (kL (kL (kC (kL (kL (fun _ => rfl))) (fun _ => rfl)))))))))))))) (kC (fun _ => rfl) (kL (kL (kC (kL (kC (kL (kL (fun _ => rfl))) (kC (kL (kL (kC (kL (kL (fun _ => rfl))) (fun _ => rfl)))) (kL (kL (kC (kL (kL (fun _ => rfl))) (fun _ => rfl))))))) (kL (kC (kL (kL (fun _ => rfl))) (kC (kL (kL (kC (kL (kL (fun _ => rfl))) (fun _ => rfl)))) (kL (kL (kC (kL (kL (fun _ => rfl))) (fun _ => rfl))))))))))))
theorem round_sum.call (a : LExact) (b : LExact) (h : round_sum.ok M0 a b = true) : PureOK Try.prog 107 [a.val, b.val] ((round_sum M0 a b).val) :=
  evP_sound (P := Try.prog) mixed tabOK round_sum.fnsOK Try.func107 rfl (Λ := noLoops) (c := Try.f107.body.getD .skip) rfl (noLoopsOK _) rfl (Nat.zero_le 1) rfl rfl ((round_sum.ev M0 (round_exact_left M0) (round_exact_left.ok M0) (round_exact_length M0) (round_exact_length.ok M0) (round_exact_right M0) (round_exact_right.ok M0) (round_exact_zero M0) add64 add64.ok sub64 sub64.ok a b).trans (round_sum.k_eq M0 a b _ h))
def round_sum.ph (c107 : LExact → LExact → LExact) (c107ok : LExact → LExact → Bool) : Ph := fun args => match args with
  | [.agg ⟨[.bool a0_0, .int .u64 a0_1, .int .u64 a0_2, .int .i64 a0_3, .bool a0_4]⟩, .agg ⟨[.bool a1_0, .int .u64 a1_1, .int .u64 a1_2, .int .i64 a1_3, .bool a1_4]⟩] => some (c107ok (⟨a0_0, a0_1, a0_2, a0_3, a0_4⟩ : LExact) (⟨a1_0, a1_1, a1_2, a1_3, a1_4⟩ : LExact), (c107 (⟨a0_0, a0_1, a0_2, a0_3, a0_4⟩ : LExact) (⟨a1_0, a1_1, a1_2, a1_3, a1_4⟩ : LExact)).val)
  | _ => none
theorem round_sum.phOK : PhOK Try.prog 107 (round_sum.ph (round_sum M0) (round_sum.ok M0)) := ⟨by
  intro args v h
  unfold round_sum.ph at h
  split at h
  · rename_i a0_0 a0_1 a0_2 a0_3 a0_4 a1_0 a1_1 a1_2 a1_3 a1_4
    simp only [Option.some.injEq, Prod.mk.injEq] at h
    obtain ⟨hok, rfl⟩ := h
    exact ⟨rfl, rfl, round_sum.call (⟨a0_0, a0_1, a0_2, a0_3, a0_4⟩ : LExact) (⟨a1_0, a1_1, a1_2, a1_3, a1_4⟩ : LExact) hok⟩
  · cases h⟩
def math_normalize.k (M : Prims) (c111 : Nat → Nat) (c111ok : Nat → Bool) (x : Nat) (k : Nat × Int → R) : R :=
  cond (c111ok x)
    (cond (M.lt (c111 x) 4503599627370496)
       (k ((M.mul x 4841369599423283200), (-52)))
       (k (x, 0)))
    (none)
def math_normalize (M : Prims) (x : Nat) : Nat × Int :=
  cond (M.lt (math_Abs M x) 4503599627370496)
    (((M.mul x 4841369599423283200), (-52)))
    ((x, 0))
def math_normalize.ok (M : Prims) (x : Nat) : Bool :=
  cond (math_Abs.ok M x)
    (true)
    (false)
def math_normalize.fns (c111 : Nat → Nat) (c111ok : Nat → Bool) : FuncId → List Value → Option (Bool × Value) := ifId 111 (math_Abs.ph c111 c111ok) <| noFns
theorem math_normalize.fnsOK : PureFns Try.prog (math_normalize.fns (math_Abs M0) (math_Abs.ok M0)) := ifIdOK math_Abs.phOK <| noFnsOK
theorem math_normalize.ev (M : Prims) (c111 : Nat → Nat) (c111ok : Nat → Bool)  (x : Nat) : evP tab M (math_normalize.fns c111 c111ok) noLoops 300 Try.f123 [(.float .f64 x)] = math_normalize.k M c111 c111ok  x (fun r => some (.tuple ⟨[(.float .f64 r.1), (.int .i64 r.2)]⟩, [])) := by kernel_rfl
theorem math_normalize.k_eq (M : Prims) (x : Nat) (k : Nat × Int → R) : math_normalize.ok M x = true → math_normalize.k M (math_Abs M) (math_Abs.ok M) x k = k (math_normalize M x) := by
  unfold math_normalize.ok math_normalize.k math_normalize
  exact kL (fun _ => pC rfl rfl)
theorem math_normalize.call (x : Nat) (h : math_normalize.ok M0 x = true) : PureOK Try.prog 123 [(.float .f64 x)] (.tuple ⟨[(.float .f64 ((math_normalize M0 x).1)), (.int .i64 ((math_normalize M0 x).2))]⟩) :=
  evP_sound (P := Try.prog) mixed tabOK math_normalize.fnsOK Try.func123 rfl (Λ := noLoops) (c := Try.f123.body.getD .skip) rfl (noLoopsOK _) rfl (Nat.zero_le 1) rfl rfl ((math_normalize.ev M0 (math_Abs M0) (math_Abs.ok M0) x).trans (math_normalize.k_eq M0 x _ h))
def math_normalize.ph (c123 : Nat → Nat × Int) (c123ok : Nat → Bool) : Ph := fun args => match args with
  | [.float .f64 a0_] => some (c123ok a0_, .tuple ⟨[(.float .f64 ((c123 a0_).1)), (.int .i64 ((c123 a0_).2))]⟩)
  | _ => none
theorem math_normalize.phOK : PhOK Try.prog 123 (math_normalize.ph (math_normalize M0) (math_normalize.ok M0)) := ⟨by
  intro args v h
  unfold math_normalize.ph at h
  split at h
  · rename_i a0_
    simp only [Option.some.injEq, Prod.mk.injEq] at h
    obtain ⟨hok, rfl⟩ := h
    exact ⟨rfl, rfl, math_normalize.call a0_ hok⟩
  · cases h⟩
end Go.Lan
